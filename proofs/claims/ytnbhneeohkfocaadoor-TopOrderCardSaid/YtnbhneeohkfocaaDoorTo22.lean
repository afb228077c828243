/- TopOrder: the walk. -/
import Derived.Test.YtnbhneeohkfocaaDoorTo19
import Derived.Test.YtnbhneeohkfocaaDoorTo20
import Derived.Test.YtnbhneeohkfocaaDoorTo21
import Derived.BigRegion
import Derived.BigQuiet
import Derived.Deep.CutRange
namespace Go.Proofs.YtnbhneeohkfocaaDoor.Sc
open Go Go.RowKit Go.ChangeShapes Go.WideShapes Go.ChangeAt
set_option maxRecDepth 100000

def u8Row (x : Int) : List Value := [.int .u8 x]
section
variable {nm : Nat → ByteArray} {co ri : Nat → Int}
set_option maxHeartbeats 32000000 in
theorem topOrder_walk (hnm : ∀ t, t < 8 → (nm t).toList.isEmpty = false) (s0 s1 s2 s3 s4 s5 : ByteArray) (tm : Int) (L : List Ln) (v : Value) (cs : List Int) (vc : Value) (lk : List Cst) (vk : Value) (w : World) (ht : TmW w nm co ri) (hs : Sl w 3 v (L.map Ln.row)) (hc : Sl w 1 vc (cs.map u8Row)) (hcf : ∀ x ∈ cs, 0 ≤ x ∧ x ≤ 255) (hk : Sl w 3 vk (lk.map Cst.row)) :
    Calls Tryd.prog 3 #[.agg #[.string s0, .string s1, .string s2, .string s3, .string s4, .string s5, .int .i64 tm, v], vc, vk] w (RetB w true) := by
  obtain ⟨a, c, rfl⟩ : ∃ a c, v = .slice a L.length c := by simpa using hs.shape
  obtain ⟨ac, cc, rfl⟩ : ∃ a c, vc = .slice a cs.length c := by simpa using hc.shape
  obtain ⟨ak, ck, rfl⟩ : ∃ a c, vk = .slice a lk.length c := by simpa using hk.shape
  have HC := Lib.hid (fun W => ten_any W)
  have HS := Lib.hid hs
  have HCS := Lib.hid hc
  have HCF := Lib.hid hcf
  have HKS := Lib.hid hk
  have HTM := Lib.hid ht
  have HNM := Lib.hid hnm
  have HSM := Lib.hid (fun W (hW : Below w.heap.size w W) => small_any s0 s1 s2 s3 s4 s5 tm L (.slice a L.length c) W (hs.below hW (Nat.le_refl _)))
  have HX := Lib.hid (heap_alloc_new w (.cells #[.string s0, .string s1, .string s2, .string s3, .string s4, .string s5, .int .i64 tm, .slice a L.length c] 24))
  have HB0 := Lib.hid (one_below w (.cells #[.string s0, .string s1, .string s2, .string s3, .string s4, .string s5, .int .i64 tm, .slice a L.length c] 24))
  have hcl : cs.length ≤ 9223372036854775807 := by have := hc.len_le; simp only [List.length_map, maxLen] at this; omega
  have hkl : lk.length ≤ 9223372036854775807 := by have := hk.len_le; simp only [List.length_map, maxLen] at this; omega
  clear hs hc hcf hk ht hnm
  go_enter Tryd.func3, Tryd.ntmps3
  go_upto_region 1 with fail
  have HLT : Hid (w.heap.size < (w.alloc (.cells #[.string s0, .string s1, .string s2, .string s3, .string s4, .string s5, .int .i64 tm, .slice a L.length c] 24)).heap.size) := Lib.hid (by simp)
  generalize w.alloc (.cells #[.string s0, .string s1, .string s2, .string s3, .string s4, .string s5, .int .i64 tm, .slice a L.length c] 24) = w0 at *
  obtain ⟨bo, hbo⟩ : ∃ b, b = w.heap.size := ⟨_, rfl⟩
  rw [← hbo] at HX HLT ⊢
  have HBO : Hid (w.heap.size ≤ bo) := Lib.hid (by omega)
  clear hbo
  have HC0 := Lib.hid (HC.out w0)
  go_wp2_with (first
    | ((with_reducible refine HC0.out.mono ?_); rintro e w1 ⟨rfl, hb1⟩
       have hx := blk hb1 HLT.out HX.out
       have x0 := cell_blk hx 0; have x1 := cell_blk hx 1; have x2 := cell_blk hx 2; have x3 := cell_blk hx 3; have x4 := cell_blk hx 4; have x5 := cell_blk hx 5; have x6 := cell_blk hx 6; have x7 := cell_blk hx 7
       have HB1 := Lib.hid (HB0.out.trans (hb1.mono HB0.out.size)); have HX1 := Lib.hid hx; clear hb1 hx)
    | fail)
  refine (HSM.out _ HB1.out).mono ?_
  rintro e w2 ⟨b, rfl, hb, hb2⟩
  have HX2 := Lib.hid (blk hb2 (lt_blk HX1.out) HX1.out)
  have HB2 := Lib.hid (HB1.out.trans (hb2.mono HB1.out.size))
  have HBB := Lib.hid hb
  clear hb hb2 x0 x1 x2 x3 x4 x5 x6 x7 HSM HC0 HLT HX HB0 HB1 HX1
  cases b
  · go_wp2_with (first
      | ((with_reducible refine (HC.out _).mono ?_); rintro e w3 ⟨rfl, hb3⟩; have HB3 := Lib.hid (HB2.out.trans (hb3.mono HB2.out.size)); clear hb3)
      | fail)
    go_ret
    exact retB rfl HB3.out
  have hl12 := HBB.out rfl
  clear HBB
  by_cases hc12 : 12 < cs.length
  · have t1 : decide ((12 : Int) < (cs.length : Int)) = true := decide_eq_true (by omega)
    have t2 : decide (12 < cs.length) = true := decide_eq_true hc12
    clear hc12
    go_wp2_with (first
      | ((with_reducible refine (HC.out _).mono ?_); rintro e w3 ⟨rfl, hb3⟩; have HB3 := Lib.hid (HB2.out.trans (hb3.mono HB2.out.size)); clear hb3)
      | fail)
    go_ret
    exact retB rfl HB3.out
  have t1 : decide ((12 : Int) < (cs.length : Int)) = false := decide_eq_false (by omega)
  have t2 : decide (12 < cs.length) = false := decide_eq_false hc12
  by_cases hk12 : 12 < lk.length
  · have t3 : decide ((12 : Int) < (lk.length : Int)) = true := decide_eq_true (by omega)
    have t4 : decide (12 < lk.length) = true := decide_eq_true hk12
    clear hc12 hk12
    go_wp2_with (first
      | ((with_reducible refine (HC.out _).mono ?_); rintro e w3 ⟨rfl, hb3⟩; have HB3 := Lib.hid (HB2.out.trans (hb3.mono HB2.out.size)); clear hb3)
      | fail)
    go_ret
    exact retB rfl HB3.out
  have t3 : decide ((12 : Int) < (lk.length : Int)) = false := decide_eq_false (by omega)
  have t4 : decide (12 < lk.length) = false := decide_eq_false hk12
  have hcl : cs.length ≤ 12 := by omega
  have hkl : lk.length ≤ 12 := by omega
  clear hc12 hk12
  go_upto_region 3 with fail
  clear t1 t2 t3 t4
  have HTO := Lib.hid (total_any s0 s1 s2 s3 s4 s5 tm L _ w2 (HS.out.below HB2.out (Nat.le_refl _)))
  have HEE := Lib.hid (totE_err (mb := mayO s0 s1 s2 s3 s4 s5 tm L) (L := L))
  have x0 := cell_blk HX2.out 0
  have x1 := cell_blk HX2.out 1
  have x2 := cell_blk HX2.out 2
  have x3 := cell_blk HX2.out 3
  have x4 := cell_blk HX2.out 4
  have x5 := cell_blk HX2.out 5
  have x6 := cell_blk HX2.out 6
  have x7 := cell_blk HX2.out 7
  obtain ⟨te, hte⟩ : ∃ te, totE (mayO s0 s1 s2 s3 s4 s5 tm L) L = te := ⟨_, rfl⟩
  rw [hte] at HTO HEE
  obtain ⟨T, E⟩ := te
  simp only at HTO HEE
  clear hte
  go_upto_region 4 with (first
    | ((with_reducible refine HTO.out.mono ?_); rintro e w3 ⟨rfl, hb3⟩; have HX3 := Lib.hid (blk hb3 (lt_blk HX2.out) HX2.out); have HB3 := Lib.hid (HB2.out.trans (hb3.mono HB2.out.size)); clear hb3)
    | fail)
  clear x0 x1 x2 x3 x4 x5 x6 x7 HTO HX2 HB2
  by_cases hE : E ≠ 0
  · have t1 : (E != 0) = true := by simp [hE]
    clear hE
    go_wp2_with (first
      | ((with_reducible refine (HC.out _).mono ?_); rintro e w4 ⟨rfl, hb4⟩; have HB4 := Lib.hid (HB3.out.trans (hb4.mono HB3.out.size)); clear hb4)
      | fail)
    go_ret
    exact retB rfl HB4.out
  have hE := Decidable.not_not.1 hE
  obtain ⟨hm, heq, hT⟩ := HEE.out hE
  obtain ⟨rfl, rfl⟩ := Prod.mk.inj heq
  obtain ⟨hok, -, htm0, htm7⟩ := mayO_ok hm
  have HOK := Lib.hid hok
  have HM := Lib.hid hm
  have HT := Lib.hid hT
  have t1 : ((L.length : Int) == 0) = false := by have := hok.lo; rw [beq_eq_false_iff_ne]; omega
  have t2 : (L.length == 0) = false := by have := hok.lo; rw [beq_eq_false_iff_ne]; omega
  have x7 := cell_blk HX3.out 7
  clear hE hm heq hT hok htm0 htm7 HEE
  by_cases hc0 : cs.length = 0
  · have t3 : ((cs.length : Int) == 0) = true := by simp [hc0]
    have t4 : (cs.length == 0) = true := by simp [hc0]
    clear hc0
    go_wp2_with (first
      | ((with_reducible refine (HC.out _).mono ?_); rintro e w4 ⟨rfl, hb4⟩; have HB4 := Lib.hid (HB3.out.trans (hb4.mono HB3.out.size)); clear hb4)
      | fail)
    go_ret
    exact retB rfl HB4.out
  have t3 : ((cs.length : Int) == 0) = false := by rw [beq_eq_false_iff_ne]; omega
  have t4 : (cs.length == 0) = false := by rw [beq_eq_false_iff_ne]; omega
  have HC1 : Hid (1 ≤ cs.length) := Lib.hid (by omega)
  clear hc0
  go_upto_region 6 with fail
  clear t1 t2 t3 t4
  have hmk1 := run_make_row' (P := Tryd.prog) 32 3 (.int .i64 0) 8 Tryd.underlying32 infoInt rfl .i64 .i64 L.length (by omega) (by omega)
  go_cut [9, 10] from 33 (fun f1 f2 wx => ∃ q1 q2, f1 = .slice (some ⟨q1, 0, none⟩) L.length L.length ∧ f2 = .slice (some ⟨q2, 0, none⟩) L.length L.length ∧ Fa w3 wx q1 q2 L.length (madeCells #[.int .i64 0] L.length) (madeCells #[.int .i64 0] L.length))
  case first =>
    have hlb := lt_blk HX3.out
    go_region
    all_goals
      go_wp2_with fail
      go_meet
      first
        | exact ⟨_, _, rfl, rfl, (fa_made w3 _).drew⟩
        | exact ⟨_, _, rfl, rfl, (fa_made w3 _).swap.drew⟩
  case rest =>
  obtain ⟨q1, q2, rfl, rfl, hfa⟩ := hcut
  have HFA := Lib.hid hfa
  have x7 := cell_blk (blk hfa.below (lt_blk HX3.out) HX3.out) 7
  clear hfa hmk1
  go_wp2_with fail
  clear x7
  go_loopw [11, 12, 13, 14, 81] (fun sa sb _ _ i wr => ∃ (k : Nat) (P R : Array Value), k ≤ L.length ∧ i = .int .i64 k ∧ sa = .int .i64 (sumQ (fstO L cs) k) ∧ sb = .int .i64 (sumQ (sndO L cs) k) ∧ Fa w3 wr q1 q2 L.length P R ∧ Upto (fstO L cs) L.length k P ∧ Upto (sndO L cs) L.length k R) (fun _ _ _ _ i _ => L.length - (intOf i).toNat)
  case atStart => exact ⟨0, _, _, Nat.zero_le _, rfl, rfl, rfl, HFA.out, Upto.start _ _, Upto.start _ _⟩
  case round =>
  obtain ⟨k, P, R, hk, rfl, rfl, rfl, hfa, hup, hur⟩ := hrel
  have HFA := Lib.hid hfa
  have HUP := Lib.hid hup
  have HUR := Lib.hid hur
  by_cases hlt : k < L.length
  · have hbw : Below w.heap.size w wr := HB3.out.trans (hfa.below.mono HB3.out.size)
    obtain ⟨b, off, rfl, hb, h0, h1, h2⟩ := ln_at HS.out hlt
    have d0 := (hbw.cell (p := ⟨b, off + k * 3, none⟩) hb).trans h0
    have d1 := (hbw.cell (p := ⟨b, off + k * 3 + 1, none⟩) hb).trans h1
    have d2 := (hbw.cell (p := ⟨b, off + k * 3 + 2, none⟩) hb).trans h2
    obtain ⟨r, hr⟩ : ∃ r, r = k % cs.length := ⟨_, rfl⟩
    have hrl : r < cs.length := by rw [hr]; exact Nat.mod_lt _ HC1.out
    obtain ⟨bq, offq, rfl, -, hbq, hcq⟩ := HCS.out.at (i := r) (by simpa using hrl)
    have y0 := (hbw.cell (p := ⟨bq, offq + r * 1, none⟩) hbq).trans (hcq r (u8Row cs[r]) (by simp [hrl]) 0 _ rfl)
    rw [Nat.mul_one] at y0
    have er : (k : Int) % (cs.length : Int) = ((r : Nat) : Int) := by rw [hr]; rfl
    have hcx := HCF.out cs[r] (List.getElem_mem hrl)
    have hfb := fst_bd HOK.out HC1.out HCF.out hlt
    have hfs := fstO_at (cs := cs) hlt (by rw [← hr]; exact hrl)
    have hss := sndO_at (cs := cs) hlt
    have hc0 := HOK.out.c0 _ (List.getElem_mem hlt)
    have hs1 := sumQ_bd (f := fstO L cs) (B := 1048576) (n := k) fun j hj => by
      have h1 := fst_bd HOK.out HC1.out HCF.out (show j < L.length by omega)
      have h2 := HOK.out.c0 _ (List.getElem_mem (show j < L.length by omega))
      omega
    have hs2 := sumQ_bd (f := sndO L cs) (B := 1048576) (n := k) fun j hj => by
      have h1 := fst_bd HOK.out HC1.out HCF.out (show j < L.length by omega)
      have h2 := HOK.out.c0 _ (List.getElem_mem (show j < L.length by omega))
      rw [sndO_at (show j < L.length by omega)]
      omega
    simp only [← hr] at hfs
    have tk : ((k : Nat) : Int) < (L.length : Int) := by omega
    have tr : ((r : Nat) : Int) < (cs.length : Int) := by omega
    have HSS1 : Hid (sumQ (fstO L cs) (k + 1) = sumQ (fstO L cs) k + fstO L cs k) := Lib.hid rfl
    have HSS2 : Hid (sumQ (sndO L cs) (k + 1) = sumQ (sndO L cs) k + sndO L cs k) := Lib.hid rfl
    have HST1 := Lib.hid (hup.step hlt hfa.sp)
    have HST2 := Lib.hid (hur.step hlt hfa.sr)
    have HK := Lib.hid hlt
    have p0' := hup k hlt
    have r0' := hur k hlt
    rw [if_neg (Nat.lt_irrefl _)] at p0' r0'
    obtain ⟨lb, hlb⟩ : ∃ b, b = wr.heap.size := ⟨_, rfl⟩
    have hlq1 : q1 < lb := hlb ▸ lt_blk hfa.hp
    have hlq2 : q2 < lb := hlb ▸ lt_blk hfa.hr
    have hlbq : bq < lb := hlb ▸ Nat.lt_of_lt_of_le hbq hbw.size
    have hqn := hfa.ne
    have hqb : bq < q1 ∧ bq < q2 := by have := hfa.l1; have := hfa.l2; have := HB3.out.size; omega
    generalize L[k] = x at *
    obtain ⟨xg, xc, xp⟩ := x
    generalize cs[r] = y at *
    simp only at d0 d1 d2 hfs hss hc0 hfb
    obtain ⟨m, hm⟩ : ∃ m, xc * y = m := ⟨_, rfl⟩
    rw [hm] at hfs
    have hm1 : 0 ≤ m ∧ m ≤ 1048576 * 255 := by
      have h3 : xc * y ≤ xc * 255 := Int.mul_le_mul_of_nonneg_left hcx.2 (by omega)
      have h4 : 0 ≤ xc * y := Int.mul_nonneg (by omega) hcx.1
      omega
    have e1 : wrap64 (xc * y) = m := by rw [hm]; exact IntWalk.wrap64_in _ (by omega)
    obtain ⟨F, hF⟩ : ∃ F, fstO L cs k = F := ⟨_, rfl⟩
    obtain ⟨S, hS⟩ : ∃ S, sndO L cs k = S := ⟨_, rfl⟩
    rw [hF] at hfs hss hfb HSS1 HST1
    rw [hS] at hss HSS2 HST2
    have HFK := Lib.hid hF
    have HSK := Lib.hid hS
    have HFB := Lib.hid hfb
    have HSE := Lib.hid hss
    clear hF hS
    have e3 : m / 256 = F := hfs.symm
    have hm2 : 0 ≤ m := hm1.1
    have hm3 : m ≤ 267386880 := by omega
    have e4 : IntKind.i64.wrap y = y := IntWalk.i64_in _ (by omega)
    generalize sumQ (fstO L cs) k = A at *
    generalize sumQ (sndO L cs) k = B at *
    have HLB := Lib.hid (heap_alloc_new wr (.cells #[.string xg, .int .i64 xc, .int .i64 xp] 34))
    have HF8 := Lib.hid (hfa.on (one_below wr (.cells #[.string xg, .int .i64 xc, .int .i64 xp] 34)))
    have HY8 := Lib.hid (((one_below wr (.cells #[.string xg, .int .i64 xc, .int .i64 xp] 34)).cell (cell_ltO y0)).trans y0)
    have HLT : Hid (lb = wr.heap.size) := Lib.hid hlb
    clear hfa hup hur hbw h0 h1 h2 hb hcq hbq hr hlb hcx
    go_upto_region 11 with fail
    clear d0 d1 d2 y0
    rw [← HLT.out] at HLB ⊢
    clear HLT
    generalize wr.alloc (.cells #[.string xg, .int .i64 xc, .int .i64 xp] 34) = w8 at *
    have c1 := cell_blk HLB.out 1
    have p0 := (cell_blk HF8.out.hp k).trans p0'
    have r0 := (cell_blk HF8.out.hr k).trans r0'
    have y0 := HY8.out
    have f1 := free_blk HF8.out.hp k
    have f2 := free_blk HF8.out.hr k
    clear p0' r0'
    have HE3 := Lib.hid e3
    clear e3 hfs hss
    go_region
    go_upto_region 12 with fail
    obtain ⟨w9, hw9⟩ : ∃ W, W = (w8.setCell ⟨q1, k, none⟩ (.int .i64 (m / 256))).drew := ⟨_, rfl⟩
    have HF9 : Hid (Fa w3 w9 q1 q2 L.length (P.setIfInBounds k (.int .i64 F)) R) := Lib.hid (by rw [hw9, HE3.out]; exact (HF8.out.setP k _).drew)
    have HL9 : Hid (w9.heap[lb]? = some (.cells #[.string xg, .int .i64 xc, .int .i64 xp] 34 (0, 0))) := Lib.hid (by rw [hw9]; exact (Below.heap_setCell w8 ⟨q1, k, none⟩ _ lb (by show lb ≠ q1; omega)).trans HLB.out)
    rw [← hw9]
    clear hw9 c1 p0 r0 y0 f1 f2 e1 e4 er
    have c1 := cell_blk HL9.out 1
    have HP9 := Lib.hid (HST1.out k HK.out)
    have HR9 := Lib.hid (HUR.out k HK.out)
    have p0 := (cell_blk HF9.out.hp k).trans HP9.out
    have r0 := (cell_blk HF9.out.hr k).trans HR9.out
    rw [if_pos (Nat.lt_succ_self _), HFK.out] at p0
    rw [if_neg (Nat.lt_irrefl _)] at r0
    have f2 := free_blk HF9.out.hr k
    have hf1 : 0 ≤ F := HFB.out.1
    have hf2 : F < xc := HFB.out.2
    go_region
    go_upto_region 13 with fail
    obtain ⟨w10, hw10⟩ : ∃ W, W = (w9.setCell ⟨q2, k, none⟩ (.int .i64 (xc - F))).drew := ⟨_, rfl⟩
    have HF10 : Hid (Fa w3 w10 q1 q2 L.length (P.setIfInBounds k (.int .i64 F)) (R.setIfInBounds k (.int .i64 S))) := Lib.hid (by rw [hw10, HSE.out]; exact (HF9.out.setR k _).drew)
    rw [← hw10]
    clear hw10 c1 p0 r0 f2
    have HR10 := Lib.hid (HST2.out k HK.out)
    have p0 := (cell_blk HF10.out.hp k).trans HP9.out
    have r0 := (cell_blk HF10.out.hr k).trans HR10.out
    rw [if_pos (Nat.lt_succ_self _), HFK.out] at p0
    rw [if_pos (Nat.lt_succ_self _), HSK.out] at r0
    have hse := HSE.out
    have g1 : IntKind.i64.wrap (A + F) = A + F := IntWalk.i64_in _ (by omega)
    have g2 : IntKind.i64.wrap (B + S) = B + S := IntWalk.i64_in _ (by omega)
    have g3 : wrap64 (A + F) = A + F := IntWalk.wrap64_in _ (by omega)
    have g4 : wrap64 (B + S) = B + S := IntWalk.wrap64_in _ (by omega)
    clear hse
    go_quiet (fail)
    have HN : Hid (∀ n, Fa w3 (w10.drewN n) q1 q2 L.length (P.setIfInBounds k (.int .i64 F)) (R.setIfInBounds k (.int .i64 S))) := Lib.hid (fun n => HF10.out.on (below_drewN (Below.refl _ _) n))
    go_wp2_with fail
    go_roundw
    case rel => exact ⟨k + 1, _, _, by have := HK.out; omega, by go_num, by first | (rw [HSS1.out]) | rw [HSS1.out, g3], by first | (rw [HSS2.out]) | rw [HSS2.out, g4], HN.out _, HST1.out, HST2.out⟩
    case measure => (have := HK.out; simp [intOf]) <;> omega
  obtain rfl : k = L.length := by omega
  have tk : ¬ (((L.length : Nat) : Int) < (L.length : Int)) := by omega
  have hA0 := sumQ_bd (f := fstO L cs) (B := 1048576) (n := L.length) fun j hj => by
    have h1 := fst_bd HOK.out HC1.out HCF.out hj
    have h2 := HOK.out.c0 _ (List.getElem_mem hj)
    omega
  have hB0 := snd_pos HOK.out HC1.out HCF.out
  have HTW := Lib.hid (two_ok HOK.out HC1.out HCF.out)
  generalize sumQ (fstO L cs) L.length = A at *
  generalize sumQ (sndO L cs) L.length = B at *
  clear hk hlt hfa hup hur
  obtain ⟨wp, hwp⟩ : ∃ W, wr.alloc (.cells #[.slice (some ⟨q1, 0, none⟩) L.length L.length, .slice (some ⟨q2, 0, none⟩) L.length L.length] 32) = W := ⟨_, rfl⟩
  have HPB : Hid (wp.heap[wr.heap.size]? = some (.cells #[.slice (some ⟨q1, 0, none⟩) L.length L.length, .slice (some ⟨q2, 0, none⟩) L.length L.length] 32 (0, 0))) := Lib.hid (hwp ▸ heap_alloc_new wr _)
  have HFP := Lib.hid (HFA.out.on (hwp ▸ one_below wr _))
  have HWP := Lib.hid hwp
  clear hwp
  go_upto_region 16 with fail
  rw [HWP.out]
  clear HWP tk
  generalize wr.heap.size = pb0 at *
  go_cut [132] from 124 (fun s wx => s = .bool (decide (A = 0)) ∧ wp = wx)
  case first =>
    by_cases hA : A = 0
    · have t1 : (A == 0) = true := by simp [hA]
      have HA := Lib.hid hA
      clear hA
      go_wp2_with fail
      go_meet
      exact ⟨by rw [decide_eq_true HA.out], rfl⟩
    · have t1 : (A == 0) = false := by simp [hA]
      have t2 : (B == 0) = false := by rw [beq_eq_false_iff_ne]; omega
      have HA := Lib.hid hA
      clear hA
      go_wp2_with fail
      go_meet
      exact ⟨by rw [decide_eq_false HA.out], rfl⟩
  case rest =>
  obtain ⟨rfl, rfl⟩ := hcut
  go_upto_if 132 with fail
  go_cut [15, 17] from 124 (fun sp _ wx => ∃ (n : Nat) (p : Nat → Nat → Int) (pb cp : Nat), sp = .slice (some ⟨pb, 0, none⟩) n cp ∧ PtsOk L n p ∧ PtAt wx pb 0 n L.length p ∧ Below w3.heap.size w3 wx)
  case first =>
    by_cases hA : A = 0
    · rw [decide_eq_true hA]
      obtain ⟨i0, hi, hz, hsz, hby⟩ := info_parts infoInt
      have HI := Lib.hid (And.intro hi (And.intro hz (And.intro hsz hby)))
      clear hA hi hz hsz hby
      obtain ⟨we, hwe⟩ : ∃ W, (wp.alloc (.cells #[] 3)).alloc (.cells #[.slice (some ⟨wp.heap.size, 0, none⟩) 0 0] 32) = W := ⟨_, rfl⟩
      have h1 := one_below wp (.cells #[] 3)
      have HPI : Hid (PaI wp we (wp.heap.size + 1) (.slice (some ⟨wp.heap.size, 0, none⟩) 0 0) L 0) := Lib.hid (by
        have h2 := one_below (wp.alloc (.cells #[] 3)) (.cells #[.slice (some ⟨wp.heap.size, 0, none⟩) 0 0] 32)
        refine ⟨hwe ▸ h1.trans (h2.mono h1.size), ?_, ?_, by omega⟩
        · have := heap_alloc_new (wp.alloc (.cells #[] 3)) (.cells #[.slice (some ⟨wp.heap.size, 0, none⟩) 0 0] 32)
          rw [← hwe]
          simpa using this
        · rw [← hwe]
          exact (own_empty (sz := 1) (Nat.le_refl _)).alloc _)
      have HWE := Lib.hid hwe
      clear hwe h1
      go_upto_region 18 with fail
      rw [HWE.out]
      clear HWE
      have x7 := cell_blk (blk HPI.out.below (Nat.lt_of_lt_of_le (lt_blk HX3.out) HFP.out.below.size) (blk HFP.out.below (lt_blk HX3.out) HX3.out)) 7
      go_wp2_with fail
      clear x7
      have HFW : Hid (Below w3.heap.size w3 wp) := Lib.hid HFP.out.below
      obtain ⟨pb, hpb⟩ : ∃ b, b = wp.heap.size + 1 := ⟨_, rfl⟩
      rw [← hpb] at HPI ⊢
      clear hpb
      go_loopw [17, 138] (fun _ i wx => ∃ (k : Nat) (vq : Value), k ≤ L.length ∧ i = .int .i64 k ∧ PaI wp wx pb vq L k) (fun _ i _ => L.length - (intOf i).toNat)
      case atStart => exact ⟨0, _, Nat.zero_le _, rfl, HPI.out⟩
      case round =>
      obtain ⟨k, vq, hk, rfl, hpi⟩ := hrel
      have HPX := Lib.hid hpi
      by_cases hlt : k < L.length
      · have hbw : Below w.heap.size w wr := HB3.out.trans ((HFW.out.trans (hpi.below.mono HFW.out.size)).mono HB3.out.size)
        obtain ⟨b, off, rfl, hb, h0, h1, h2⟩ := ln_at HS.out hlt
        have d0 := (hbw.cell (p := ⟨b, off + k * 3, none⟩) hb).trans h0
        have d1 := (hbw.cell (p := ⟨b, off + k * 3 + 1, none⟩) hb).trans h1
        have d2 := (hbw.cell (p := ⟨b, off + k * 3 + 2, none⟩) hb).trans h2
        have tk : ((k : Nat) : Int) < (L.length : Int) := by omega
        have hcn := cntF_at hlt
        have HK := Lib.hid hlt
        generalize L[k] = x at *
        obtain ⟨xg, xc, xp⟩ := x
        simp only at d0 d1 d2 hcn
        have HCN : Hid (cntF L k = xc) := Lib.hid hcn
        obtain ⟨lb, hlb⟩ : ∃ b, b = wr.heap.size := ⟨_, rfl⟩
        have HLB := Lib.hid (heap_alloc_new wr (.cells #[.string xg, .int .i64 xc, .int .i64 xp] 34))
        have HP8 := Lib.hid (hpi.on (one_below wr (.cells #[.string xg, .int .i64 xc, .int .i64 xp] 34)))
        have HNB : Hid (pb < lb ∧ ∀ b, vq.ownBlock = some b → b < lb) := Lib.hid ⟨hlb ▸ lt_blk hpi.box, fun b hb => hlb ▸ (hpi.own.lt b hb).2⟩
        have HLT : Hid (lb = wr.heap.size) := Lib.hid hlb
        clear hpi hbw h0 h1 h2 hb hcn hk hlt hlb
        go_upto_region 21 with fail
        clear d0 d1 d2
        rw [← HLT.out] at HLB ⊢
        clear HLT HPX
        generalize wr.alloc (.cells #[.string xg, .int .i64 xc, .int .i64 xp] 34) = w8 at *
        have HNL : Hid (¬ (lb = pb ∨ vq.ownBlock = some lb)) := Lib.hid (fun h => h.elim (fun e => by have := HNB.out.1; omega) (fun e => by have := HNB.out.2 lb e; omega))
        have HBX := Lib.hid HP8.out.box
        have HROW := Lib.hid (ownsRow_base HP8.out.own (Nat.zero_le _))
        have HNE : Hid (∀ k, vq.ownBlock = some k → k ≠ pb) := Lib.hid (fun k hk e => own_offO HP8.out.own HP8.out.box (by decide) (e ▸ hk))
        have HL7 : Hid (k + 1 ≤ maxLen ∧ (k + 1) * 8 ≤ 140737488355328) := Lib.hid (by have := HK.out; simp only [maxLen]; omega)
        refine Ord.region_lit (fun
          | 0 => Ord.val (.slice (some ⟨pb, 0, none⟩) 1 1)
          | 1 => Ord.val (.slice (some ⟨pb, 0, none⟩) 1 1)
          | 2 => Ord.val (.pointer (some ⟨pb, 0, none⟩))
          | 3 => Ord.val (vq)
          | 4 => Ord.val (.pointer (some ⟨lb, 1, none⟩))
          | 5 => Ord.val (.int .i64 xc)
          | 6 => Ord.one 3 #[.int .i64 xc]
          | 7 => Ord.grown 3 1 (k + 1) (icells L k ++ [.int .i64 xc]) 6 (vq)
          | 8 => Ord.val (.pointer (some ⟨pb, 0, none⟩))
          | 9 => Ord.kept 3 1 (k + 1) (icells L k ++ [.int .i64 xc]) (pb) (fun v => #[v]) 32 7
          | _ => Ord.idle) (fun k => k = pb ∨ (vq).ownBlock = some k) (by kernel_rfl) (by kernel_rfl) (by kernel_rfl) ?_ ?_ ?_ ?_
        · intro i _
          match i with
          | 0 => exact Ord.lasts_val _
          | 1 => exact Ord.lasts_val _
          | 2 => exact Ord.lasts_val _
          | 3 => exact Ord.lasts_val _
          | 4 => exact Ord.lasts_val _
          | 5 => exact Ord.lasts_val _
          | 6 => exact Ord.lasts_one _ _
          | 7 => exact Ord.lasts_grown _ _ _ _ _ _
          | 8 => exact Ord.lasts_val _
          | 9 => exact Ord.lasts_kept _ _ _ _ _ _ _ _
          | n + 10 => exact Ord.lasts_idle
        · refine ⟨fun k b _ hh => ?_, fun k b _ hh => ?_, fun k k' b _ _ hne h1 h2 => ?_⟩
          · match k, hh with
            | 0, hh => exact hh.elim
            | 1, hh => exact hh.elim
            | 2, hh => exact hh.elim
            | 3, hh => exact hh.elim
            | 4, hh => exact hh.elim
            | 5, hh => exact hh.elim
            | 6, hh => exact hh.elim
            | 7, hh => exact .inr hh
            | 8, hh => exact hh.elim
            | 9, hh => exact .inl hh
            | m + 10, hh => exact hh.elim
          · match k, hh with
            | 0, hh => exact hh.elim
            | 1, hh => exact hh.elim
            | 2, hh => exact hh.elim
            | 3, hh => exact hh.elim
            | 4, hh => exact hh.elim
            | 5, hh => exact hh.elim
            | 6, hh => exact hh.elim
            | 7, hh => exact (HROW.out.lt b hh).2
            | 8, hh => exact hh.elim
            | 9, hh => exact hh ▸ lt_blk HBX.out
            | m + 10, hh => exact hh.elim
          · have a : (k = 7 ∧ (fun k => (vq).ownBlock = some k) b) ∨ (k = 9 ∧ (fun k => k = pb) b) := by
              match k, h1 with
              | 0, hh => exact hh.elim
              | 1, hh => exact hh.elim
              | 2, hh => exact hh.elim
              | 3, hh => exact hh.elim
              | 4, hh => exact hh.elim
              | 5, hh => exact hh.elim
              | 6, hh => exact hh.elim
              | 7, hh => exact .inl ⟨rfl, hh⟩
              | 8, hh => exact hh.elim
              | 9, hh => exact Or.inr (⟨rfl, hh⟩)
              | m + 10, hh => exact hh.elim
            have a' : (k' = 7 ∧ (fun k => (vq).ownBlock = some k) b) ∨ (k' = 9 ∧ (fun k => k = pb) b) := by
              match k', h2 with
              | 0, hh => exact hh.elim
              | 1, hh => exact hh.elim
              | 2, hh => exact hh.elim
              | 3, hh => exact hh.elim
              | 4, hh => exact hh.elim
              | 5, hh => exact hh.elim
              | 6, hh => exact hh.elim
              | 7, hh => exact .inl ⟨rfl, hh⟩
              | 8, hh => exact hh.elim
              | 9, hh => exact Or.inr (⟨rfl, hh⟩)
              | m + 10, hh => exact hh.elim
            rcases a with ⟨rfl, a⟩ | ⟨rfl, a⟩ <;> rcases a' with ⟨rfl, a'⟩ | ⟨rfl, a'⟩
            all_goals first | exact absurd rfl hne | (first | exact HNE.out _ a a' | exact HNE.out _ a' a)
        · refine ⟨?_, ?_, ?_, ?_, ?_, ?_, ?_, ?_, ?_, ?_, trivial⟩
          · refine Ord.owes_plain rfl fun ρ Os wo hs' hb hc' => ?_
            have h15 : ρ (.tmp 15) = .slice (some ⟨pb, 0, none⟩) 1 1 := hs'.old' 15 (by kernel_rfl)
            exact Any.ok_move (Ord.post_val rfl h15)
          · refine Ord.owes_plain rfl fun ρ Os wo hs' hb hc' => ?_
            have h15 : ρ (.tmp 15) = .slice (some ⟨pb, 0, none⟩) 1 1 := hs'.old' 15 (by kernel_rfl)
            exact Any.ok_move (Ord.post_val rfl h15)
          · refine Ord.owes_plain rfl fun ρ Os wo hs' hb hc' => ?_
            have h143 : ρ (.tmp 143) = .slice (some ⟨pb, 0, none⟩) 1 1 := hs'.val' 143 1 (by kernel_rfl) rfl
            go_simp
            exact Ord.post_val rfl rfl
          · refine Ord.owes_plain rfl fun ρ Os wo hs' hb hc' => ?_
            have h144 : ρ (.tmp 144) = .pointer (some ⟨pb, 0, none⟩) := hs'.val' 144 2 (by kernel_rfl) rfl
            have c0 : wo.cell? ⟨pb, 0, none⟩ = some (vq) := (cell_blk ((hs'.early' 9 (by kernel_rfl) _ rfl).trans HBX.out) 0)
            go_simp
            exact Ord.post_val rfl rfl
          · refine Ord.owes_plain rfl fun ρ Os wo hs' hb hc' => ?_
            have h17 : ρ (.tmp 17) = .pointer (some ⟨lb, 0, none⟩) := hs'.old' 17 (by kernel_rfl)
            go_simp
            exact Ord.post_val rfl rfl
          · refine Ord.owes_plain rfl fun ρ Os wo hs' hb hc' => ?_
            have h146 : ρ (.tmp 146) = .pointer (some ⟨lb, 1, none⟩) := hs'.val' 146 4 (by kernel_rfl) rfl
            have c0 : wo.cell? ⟨lb, 1, none⟩ = some (.int .i64 xc) := (hb.undrew.cell (lt_blk HLB.out) HNL.out).trans (cell_blk HLB.out 1)
            go_simp
            exact Ord.post_val rfl rfl
          · refine Ord.owes_plain rfl fun ρ Os wo hs' hb hc' => ?_
            have h147 : ρ (.tmp 147) = .int .i64 xc := hs'.val' 147 5 (by kernel_rfl) rfl
            go_simp
            exact Ord.post_one rfl
          · refine Ord.owes_plain rfl fun ρ Os wo hs' hb hc' => ?_
            have h145 : ρ (.tmp 145) = vq := hs'.val' 145 3 (by kernel_rfl) rfl
            exact Ord.ok_grown Tryd.underlying32 HI.out.1 HI.out.2.1 HI.out.2.2.1 HI.out.2.2.2 rfl (by decide) h145 (hs'.new' 148 6 (by kernel_rfl)) HROW.out hs'.here rfl (by simp [Value.oneCell']) HL7.out.1 HL7.out.2 rfl
          · refine Ord.owes_plain rfl fun ρ Os wo hs' hb hc' => ?_
            have h142 : ρ (.tmp 142) = .slice (some ⟨pb, 0, none⟩) 1 1 := hs'.val' 142 0 (by kernel_rfl) rfl
            go_simp
            exact Ord.post_val rfl rfl
          · refine Ord.owes_plain rfl fun ρ Os wo hs' hb hc' => ?_
            have h150 : ρ (.tmp 150) = .pointer (some ⟨pb, 0, none⟩) := hs'.val' 150 8 (by kernel_rfl) rfl
            exact Ord.ok_kept h150 (hs'.new' 149 7 (by kernel_rfl)) HBX.out (hs'.here _ rfl) ((show (0 : Nat) < 1 by decide)) (by decide) (fun _ => rfl) (fun _ => by kernel_rfl) rfl
        intro vals Os ρs w9 hk hkn hln hap hbd
        obtain ⟨v', r1, r2, r3⟩ := hkn 9 (by kernel_rfl)
        have hbd := hbd 9 (by kernel_rfl)
        have HP9 := Lib.hid (HP8.out.more hk (by rw [HCN.out]; exact r1) r2 (fun b hb => hbd b ((r3 b).2 (.inr hb))))
        clear hkn hln hap hbd hk r1 r2 r3
        simp only [Any.putAll]
        go_frame
        go_wp2_with fail
        go_roundw
        case rel => exact ⟨k + 1, _, by have := HK.out; omega, by go_num, HP9.out⟩
        case measure => (have := HK.out; simp [intOf]) <;> omega
      obtain rfl : k = L.length := by omega
      have tk : ¬ (((L.length : Nat) : Int) < (L.length : Int)) := by omega
      clear hk hlt hpi
      go_wp2_with fail
      go_meet
      exact ⟨1, oneP L, pb, 1, rfl, one_ok HOK.out, HPX.out.part HOK.out.lo, HFW.out.trans (HPX.out.below.mono HFW.out.size)⟩
    · rw [decide_eq_false hA]
      have HA := Lib.hid hA
      clear hA
      go_wp2_with fail
      go_meet
      exact ⟨2, twoP L cs, pb0, 2, rfl, HTW.out HA.out, two_part HPB.out HFP.out HUP.out HUR.out, HFP.out.below⟩
  case rest =>
  obtain ⟨n, p, pb, cp, rfl, hpt, hpa, hbel⟩ := hcut
  obtain ⟨wa, rfl⟩ : ∃ W, W = wc := ⟨_, rfl⟩
  have HPT := Lib.hid hpt
  have HPA := Lib.hid hpa
  have HBC := Lib.hid hbel
  clear hpt hpa hbel HTW HPB HFP HUP HUR HFA hA0 hB0
  have hn2 := HPT.out.n2
  have HX4 := Lib.hid (blk HBC.out (lt_blk HX3.out) HX3.out)
  have HB4 := Lib.hid (HB3.out.trans (HBC.out.mono HB3.out.size))
  have HCK : Hid (CutK s0 s1 s2 s3 s4 s5 tm L n (fun i => if i = 0 then 5 else 9) p) := Lib.hid ⟨HM.out, HOK.out, HPT.out, fun i _ => by split <;> omega, by decide⟩
  have HCU := Lib.hid (fun (W : World) (db : Nat) (hW : Below wa.heap.size wa W) (hd : W.heap[db]? = some (.cells #[.int .i64 5, .int .i64 9] 3 (0, 0))) =>
    cut_any s0 s1 s2 s3 s4 s5 tm L a c n (fun i => if i = 0 then 5 else 9) p db 0 2 pb 0 cp W (HS.out.below (HB4.out.trans (hW.mono HB4.out.size)) (Nat.le_refl _)) HCK.out
      (fun i hi => by
        obtain rfl | rfl : i = 0 ∨ i = 1 := by have := HPT.out.n2; omega
        · exact cell_blk hd 0
        · exact cell_blk hd 1) (HPA.out.below hW))
  have x0 := cell_blk HX4.out 0
  have x1 := cell_blk HX4.out 1
  have x2 := cell_blk HX4.out 2
  have x3 := cell_blk HX4.out 3
  have x4 := cell_blk HX4.out 4
  have x5 := cell_blk HX4.out 5
  have x6 := cell_blk HX4.out 6
  have x7 := cell_blk HX4.out 7
  have hlb := lt_blk HX4.out
  go_upto_region 23 with fail
  go_cut [18, 19] from 33 (fun sv se wx => ∃ (v : Value) (lc : List Con), sv = v ∧ se = .int .i64 0 ∧ lc.length = n ∧ CsAt wx wa.heap.size s0 L p v lc ∧ Below wa.heap.size wa wx)
  case first =>
    have HD0 := Lib.hid (one_below wa (.cells #[.int .i64 5, .int .i64 9] 3)).drew
    have HCU1 := Lib.hid (HCU.out (wa.alloc (.cells #[.int .i64 5, .int .i64 9] 3)).drew wa.heap.size HD0.out (heap_alloc_new wa _))
    clear HCU
    go_region_with (first
      | ((with_reducible refine HCU1.out.mono ?_); rintro e w7 ⟨v7, lc, rfl, hlc, hcs, hb7⟩; have HLC := Lib.hid hlc; have HCS7 := Lib.hid (hcs.base HD0.out.size); have HB7 := Lib.hid (HD0.out.trans (hb7.mono HD0.out.size)); clear hlc hcs hb7)
      | fail)
    all_goals
      go_wp2_with fail
      go_meet
      exact ⟨_, _, rfl, rfl, HLC.out, HCS7.out, HB7.out⟩
  case rest =>
  obtain ⟨v8, lc, rfl, rfl, hlc, hcs, hbel⟩ := hcut
  obtain ⟨wb, rfl⟩ : ∃ W, W = wc := ⟨_, rfl⟩
  have HLC := Lib.hid hlc
  have HCS8 := Lib.hid hcs
  have HX8 := Lib.hid (blk hbel (lt_blk HX4.out) HX4.out)
  have HB8 := Lib.hid (HB4.out.trans (hbel.mono HB4.out.size))
  obtain ⟨a8, c8, rfl⟩ := own_shpO hcs.own
  have HSL8 := Lib.hid (own_cons hcs.own rfl)
  have HLE := Lib.hid (left_any s0 s1 s2 s3 s4 s5 tm L a c n p lc a8 c8 wb (HS.out.below HB8.out (Nat.le_refl _)) HM.out HPT.out hlc HSL8.out (fun i h => ⟨(hcs.get i h).1, (hcs.get i h).2.1⟩))
  have hlc2 : lc.length ≤ 2 := by omega
  have e0 : ((lc.length : Int) != (n : Int)) = false := by rw [hlc]; simp
  have e1 : (lc.length != n) = false := by rw [hlc]; simp
  have x0 := cell_blk HX8.out 0
  have x1 := cell_blk HX8.out 1
  have x2 := cell_blk HX8.out 2
  have x3 := cell_blk HX8.out 3
  have x4 := cell_blk HX8.out 4
  have x5 := cell_blk HX8.out 5
  have x6 := cell_blk HX8.out 6
  have x7 := cell_blk HX8.out 7
  clear hlc hcs hbel HCU HX4 HB4 hlb
  go_upto_region 27 with (first
    | ((with_reducible refine HLE.out.mono ?_); rintro e w9 ⟨a9, c9, rfl, hb9⟩; have HX9 := Lib.hid (blk hb9 (lt_blk HX8.out) HX8.out); have HB9 := Lib.hid (HB8.out.trans (hb9.mono HB8.out.size)); have HCS9 := Lib.hid (HCS8.out.below hb9); clear hb9)
    | fail)
  clear x0 x1 x2 x3 x4 x5 x6 x7 e0 e1 HLE HX8 HB8 HCS8 HSL8
  have HSV := Lib.hid (sumV_tot HOK.out HPT.out)
  have HVB := Lib.hid (fun i (hi : i < n) => valO_part HOK.out HPT.out hi)
  have HVS := Lib.hid (sumN_le (n := n) (f := fun i => valO L (lotsP L 0 (p i))) (fun i hi => (HVB.out i hi).1))
  unfold sumV at HSV
  have HSL9 := Lib.hid (own_cons HCS9.out.own rfl)
  go_wp2_with fail
  go_loopw [22, 24, 25, 26, 188] (fun sv _ _ _ i wr => ∃ k : Nat, k ≤ lc.length ∧ i = .int .i64 k ∧ sv = .int .i64 (sumN k fun i => valO L (lotsP L 0 (p i))) ∧ Below w9.heap.size w9 wr) (fun _ _ _ _ i _ => lc.length - (intOf i).toNat)
  case atStart => exact ⟨0, Nat.zero_le _, rfl, rfl, Below.refl _ _⟩
  case round =>
  obtain ⟨k, hk, rfl, rfl, hbel⟩ := hrel
  have HBR := Lib.hid (HB9.out.trans (hbel.mono HB9.out.size))
  have HXR := Lib.hid (blk hbel (lt_blk HX9.out) HX9.out)
  by_cases hlt : k < lc.length
  · obtain ⟨b, off, rfl, hb, hp⟩ := con_at HSL9.out hlt
    obtain ⟨d0, d1, d2, d3⟩ := hp.below hb hbel
    obtain ⟨hx1, hx2, -⟩ := HCS9.out.get k hlt
    have hkn : k < n := by have := HLC.out; omega
    have HBL := Lib.hid hbel
    have hx3 := hx2.below hbel (Nat.le_refl _)
    have HK := Lib.hid hlt
    have tk : ((k : Nat) : Int) < (lc.length : Int) := by omega
    have hsn : sumN (k + 1) (fun i => valO L (lotsP L 0 (p i))) = sumN k (fun i => valO L (lotsP L 0 (p i))) + valO L (lotsP L 0 (p k)) := rfl
    have hb1 := HVS.out k (by omega)
    have hb2 := HVS.out (k + 1) (by omega)
    rw [HSV.out] at hb1 hb2
    have htt := HT.out
    have hvk := (HVB.out k hkn)
    generalize lc[k] = x at *
    obtain ⟨xn, xm, xl, xv⟩ := x
    simp only at d0 d1 d2 d3 hx1 hx2 hx3
    rw [hx1] at d0
    obtain ⟨ax, cx, rfl⟩ : ∃ a c, xv = .slice a (lotsP L 0 (p k)).length c := by simpa using hx3.shape
    have al := one_below wr (.cells #[.string s0, .int .i64 xm, .int .i64 xl, .slice ax (lotsP L 0 (p k)).length cx] 43)
    have HVA := Lib.hid (value_any s0 s1 s2 s3 s4 s5 tm L a c (lotsP L 0 (p k)) ax cx xm xl (wr.alloc (.cells #[.string s0, .int .i64 xm, .int .i64 xl, .slice ax (lotsP L 0 (p k)).length cx] 43)) ((HS.out.below HBR.out (Nat.le_refl _)).below al (Nat.le_refl _)) HM.out (hx3.below al (Nat.le_refl _)) (lotsP_ok HOK.out HPT.out hkn) (by have := lotsP_len L 0 (p k); omega) (by omega))
    have HBA := Lib.hid al
    have HSN := Lib.hid hsn
    rw [hsn] at hb2
    generalize (lotsP L 0 (p k)).length = ml at *
    generalize valO L (lotsP L 0 (p k)) = V at *
    generalize sumN k (fun i => valO L (lotsP L 0 (p i))) = S at *
    have e1 : IntKind.i64.wrap (S + V) = S + V := IntWalk.i64_in _ (by omega)
    have e2 : wrap64 (S + V) = S + V := IntWalk.wrap64_in _ (by omega)
    have HE2 := Lib.hid e2
    have hlb := lt_blk HXR.out
    have x0 := cell_blk HXR.out 0
    have x1 := cell_blk HXR.out 1
    have x2 := cell_blk HXR.out 2
    have x3 := cell_blk HXR.out 3
    have x4 := cell_blk HXR.out 4
    have x5 := cell_blk HXR.out 5
    have x6 := cell_blk HXR.out 6
    have x7 := cell_blk HXR.out 7
    clear hb hp hbel hx1 hx2 hx3 hkn hsn hb1 hb2 htt hvk al hk hlt
    go_wp2_with (first
      | ((with_reducible refine HVA.out.mono ?_); rintro e w12 ⟨rfl, hb12⟩; have HB12 := Lib.hid (HBL.out.trans ((HBA.out.trans (hb12.mono HBA.out.size)).mono HBL.out.size)); clear hb12)
      | fail)
    go_roundw
    case rel => exact ⟨k + 1, by have := HK.out; omega, by go_num, by first | (rw [HSN.out]) | (rw [HSN.out, HE2.out]), HB12.out⟩
    case measure => (have := HK.out; simp [intOf]) <;> omega
  obtain rfl : k = lc.length := by omega
  have tk : ¬ (((lc.length : Nat) : Int) < (lc.length : Int)) := by omega
  have hsum : sumN lc.length (fun i => valO L (lotsP L 0 (p i))) = totO L := by rw [HLC.out]; exact HSV.out
  rw [hsum]
  obtain ⟨pr, hpr⟩ : ∃ pr, prtE co (mayO s0 s1 s2 s3 s4 s5 tm L) tm L lk = pr := ⟨_, rfl⟩
  have hbd := prtE_bd co (mayO s0 s1 s2 s3 s4 s5 tm L) tm L lk
  have HLA := Lib.hid (landed_any (co := co) (ri := ri) HNM.out s0 s1 s2 s3 s4 s5 tm L (.slice a L.length c) lk (.slice ak lk.length ck) wr (HS.out.below HBR.out (Nat.le_refl _)) (HKS.out.below HBR.out (Nat.le_refl _)) hkl (HTM.out.below HBR.out))
  have HEA := Lib.hid (fun W (hW : Below w.heap.size w W) => each_any (co := co) (ri := ri) HNM.out s0 s1 s2 s3 s4 s5 tm L (.slice a L.length c) lk (.slice ak lk.length ck) W (HS.out.below hW (Nat.le_refl _)) (HKS.out.below hW (Nat.le_refl _)) hkl hl12 (HTM.out.below hW) |>.mono fun e w' h => each_q h (show L.length ≤ maxLen by simp only [maxLen]; omega))
  have hsc : lk.all mayC = true → 0 ≤ sumC (buyC co tm.toNat lk) := fun hal => (sumC_le (l := buyC co tm.toNat lk) (fun x hx => List.all_eq_true.1 hal x (List.mem_filter.1 hx).1)).1
  have hto := (totO_le (L := L) (fun x hx => worth_le (HOK.out.c0 x hx) (HOK.out.p0 x hx))).1
  rw [hpr] at HLA HEA hbd
  have HPB : Hid (0 ≤ (lanE pr).1 ∧ (lanE pr).1 ≤ 1099511627776) := Lib.hid (by
    unfold lanE
    by_cases he : pr.2.2 ≠ 0
    · rw [if_pos he]; exact ⟨Int.le_refl _, (show (0 : Int) ≤ 1099511627776 by decide)⟩
    · rw [if_neg he]
      obtain ⟨-, g2, g3, g4, -, g6⟩ := hbd (Decidable.not_not.1 he)
      have := hsc g2
      simp only
      omega)
  generalize totO L = T at *
  generalize lanE pr = ln at *
  obtain ⟨D, E⟩ := ln
  try simp only at HLA HPB
  have HBR2 := HBR
  have x0 := cell_blk HXR.out 0
  have x1 := cell_blk HXR.out 1
  have x2 := cell_blk HXR.out 2
  have x3 := cell_blk HXR.out 3
  have x4 := cell_blk HXR.out 4
  have x5 := cell_blk HXR.out 5
  have x6 := cell_blk HXR.out 6
  have x7 := cell_blk HXR.out 7
  have t1 : (T != T) = false := by simp
  clear hsum hpr hbd hsc hto hbel hk hlt HSV HVB HVS HSL9 HCS9
  go_upto_region 39 with (first
    | ((with_reducible refine HLA.out.mono ?_); rintro e w13 ⟨rfl, hb13⟩; have HX13 := Lib.hid (blk hb13 (lt_blk HXR.out) HXR.out); have HB13 := Lib.hid (HBR.out.trans (hb13.mono HBR.out.size)); clear hb13)
    | fail)
  clear x0 x1 x2 x3 x4 x5 x6 x7 t1 tk
  have HEA1 := Lib.hid (HEA.out w13 HB13.out)
  have x0 := cell_blk HX13.out 0
  have x1 := cell_blk HX13.out 1
  have x2 := cell_blk HX13.out 2
  have x3 := cell_blk HX13.out 3
  have x4 := cell_blk HX13.out 4
  have x5 := cell_blk HX13.out 5
  have x6 := cell_blk HX13.out 6
  have x7 := cell_blk HX13.out 7
  have t1 : (E != E) = false := by simp
  clear HEA HLA
  go_upto_region 42 with (first
    | ((with_reducible refine HEA1.out.mono ?_); rintro e w14 ⟨ae, ce, out, rfl, hso, hsu, hno, hml, hb14⟩; have HB14 := Lib.hid (HB13.out.trans (hb14.mono HB13.out.size)); have HSO := Lib.hid hso; have HSU := Lib.hid hsu; have HNO := Lib.hid hno; clear hso hsu hno hb14)
    | fail)
  clear x0 x1 x2 x3 x4 x5 x6 x7 t1
  have hD := HSU.out
  try simp only at hD
  subst hD
  have hol : out.length ≤ 12 := by omega
  go_wp2_with fail
  go_loopw [27, 32, 224] (fun sv _ i wr => ∃ k : Nat, k ≤ out.length ∧ i = .int .i64 k ∧ sv = .int .i64 (sumI (out.drop k)) ∧ wr = w14) (fun _ _ i _ => out.length - (intOf i).toNat)
  case atStart => exact ⟨0, Nat.zero_le _, rfl, rfl, rfl⟩
  case round =>
  obtain ⟨k, hk, rfl, rfl, rfl⟩ := hrel
  by_cases hlt : k < out.length
  · obtain ⟨b, off, rfl, -, hb, hc⟩ := HSO.out.at (i := k) (by simpa using hlt)
    have d0 : World.cell? _ ⟨b, off + k * 1, none⟩ = some (.int .i64 out[k]) := hc k (nRow out[k]) (by simp [hlt]) 0 _ rfl
    rw [Nat.mul_one] at d0
    have hge : ∀ l : List Int, (∀ x ∈ l, 0 ≤ x) → 0 ≤ sumI l := by
      intro l
      induction l with
      | nil => intro _; exact Int.le_refl _
      | cons y r ih => intro h; have := h y List.mem_cons_self; have := ih fun x hx => h x (List.mem_cons_of_mem _ hx); simp only [sumI]; omega
    have h1 : sumI (out.drop k) = out[k] + sumI (out.drop (k + 1)) := by rw [List.drop_eq_getElem_cons hlt, sumI]
    have h2 := hge (out.drop (k + 1)) fun x hx => HNO.out x (List.mem_of_mem_drop hx)
    have h3 := HNO.out out[k] (List.getElem_mem hlt)
    have h4 : sumI (out.drop k) ≤ sumI out := by
      have h5 := hge (out.take k) fun x hx => HNO.out x (List.mem_of_mem_take hx)
      have h6 := sumI_app (out.take k) (out.drop k)
      rw [List.take_append_drop] at h6
      omega
    have h5 := HPB.out.2
    have HS1 := Lib.hid h1
    have HK := Lib.hid hlt
    have tk : ((k : Nat) : Int) < (out.length : Int) := by omega
    generalize out[k] = x at *
    generalize sumI (out.drop k) = S at *
    have e1 : IntKind.i64.wrap (S - x) = S - x := IntWalk.i64_in _ (by omega)
    have e2 : wrap64 (S - x) = S - x := IntWalk.wrap64_in _ (by omega)
    have HE2 := Lib.hid e2
    have HFI : Hid (S - x = sumI (out.drop (k + 1))) := Lib.hid (by omega)
    clear hb hc hge h1 h2 h3 h4 h5 hk hlt
    go_wp2_with fail
    go_roundw
    case rel => exact ⟨k + 1, by have := HK.out; omega, by go_num, by first | (rw [← HFI.out]) | (rw [← HFI.out, HE2.out]), by trivial⟩
    case measure => (have := HK.out; simp [intOf]) <;> omega
  obtain rfl : k = out.length := by omega
  have tk : ¬ (((out.length : Nat) : Int) < (out.length : Int)) := by omega
  rw [List.drop_length]
  have hz : sumI [] = 0 := rfl
  rw [hz]
  clear hk hlt hz
  go_wp2_with fail
  go_ret
  exact retB rfl HB14.out
end
end Go.Proofs.YtnbhneeohkfocaaDoor.Sc
