/- TopPacked: the walk. -/
import Derived.Test.YtbigoifpfkdkjaaGreatDoorTopPl12
import Derived.Test.YtbigoifpfkdkjaaGreatDoorCounts4
import Derived.Test.YtbigoifpfkdkjaaGreatDoorSmall4
import Derived.Test.YtbigoifpfkdkjaaGreatDoorRig12
import Derived.Test.YtbigoifpfkdkjaaGreatDoorTopFw12
namespace Go.Proofs.YtbigoifpfkdkjaaGreatDoor.Sc
open Go Go.RowKit Go.ChangeShapes Go.WideShapes Go.ChangeAt Go.Shelf
set_option maxRecDepth 100000


theorem own_bxs {w : World} {v : Value} {R : List Bv} {B : Nat} (h : BsAt w v R B) : BoxesAt w v R := by
  refine ⟨?_, fun x hx => own_lots (h.lots x hx) rfl⟩
  have he : (R.map Bv.cells).flatten = bvCells R := by rw [bvCells, List.flatMap_def]
  refine own_sl (xs := R.map Bv.cells) (by rw [he]; exact h.own) (by rw [List.length_map]) fun r hr => ?_
  obtain ⟨x, -, rfl⟩ := List.mem_map.1 hr
  rfl
set_option maxHeartbeats 8000000 in
theorem topPacked_walk (s0 s1 s2 s3 s4 s5 : ByteArray) (tm : Int) (L : List Ln) (v : Value) (G : List Gd) (vg : Value) (first : Int) (w : World) (hap : Lw w) (hs : Sl w 3 v (L.map Ln.row)) (hg : Sl w 4 vg (G.map Gd.row)) (hf : ∀ g ∈ G, g.fit) (h0 : 0 ≤ first) (h1 : first ≤ 65535) :
    Calls Tryz.prog 5 #[.agg #[.string s0, .string s1, .string s2, .string s3, .string s4, .string s5, .int .i64 tm, v], vg, .int .u16 first] w (RetB w true) := by
  obtain ⟨a, c, rfl⟩ : ∃ a c, v = .slice a L.length c := by simpa using hs.shape
  obtain ⟨ag, cg, rfl⟩ : ∃ a c, vg = .slice a G.length c := by simpa using hg.shape
  have HC := Lib.hid (fun W => ten_any W)
  have HS := Lib.hid hs
  have HG := Lib.hid hg
  have HAP := Lib.hid hap
  have HSM := Lib.hid (fun W (hW : Below w.heap.size w W) => small_any s0 s1 s2 s3 s4 s5 tm L (.slice a L.length c) W (hs.below hW (Nat.le_refl _)))
  have HX := Lib.hid (heap_alloc_new w (.cells #[.string s0, .string s1, .string s2, .string s3, .string s4, .string s5, .int .i64 tm, .slice a L.length c] 80))
  have HB0 := Lib.hid (one_below w (.cells #[.string s0, .string s1, .string s2, .string s3, .string s4, .string s5, .int .i64 tm, .slice a L.length c] 80))
  have hgl : G.length ≤ 9223372036854775807 := by have := hg.len_le; simp only [List.length_map, maxLen] at this; omega
  have hgs := hg.len_le
  clear hs hg hap
  go_enter Tryz.func5, Tryz.ntmps5
  go_upto_region 1 with fail
  have HLT : Hid (w.heap.size < (w.alloc (.cells #[.string s0, .string s1, .string s2, .string s3, .string s4, .string s5, .int .i64 tm, .slice a L.length c] 80)).heap.size) := Lib.hid (by simp)
  generalize w.alloc (.cells #[.string s0, .string s1, .string s2, .string s3, .string s4, .string s5, .int .i64 tm, .slice a L.length c] 80) = w0 at *
  have HC0 := Lib.hid (HC.out w0)
  go_wp2_with (first
    | ((with_reducible refine HC0.out.mono ?_); rintro e w1 ⟨rfl, hb1⟩
       have hx := blk hb1 HLT.out HX.out
       have x0 := cell_blk hx 0; have x1 := cell_blk hx 1; have x2 := cell_blk hx 2; have x3 := cell_blk hx 3; have x4 := cell_blk hx 4; have x5 := cell_blk hx 5; have x6 := cell_blk hx 6; have x7 := cell_blk hx 7
       have HB1 := Lib.hid (HB0.out.trans (hb1.mono HB0.out.size)); have HX1 := Lib.hid hx; clear hb1 hx)
    | fail)
  refine (HSM.out _ HB1.out).mono ?_
  rintro e w2 ⟨b, rfl, hb, hb2⟩
  have HX2 := Lib.hid (blk hb2 (lt_blk HX1.out) HX1.out)
  have HB2 := Lib.hid (HB1.out.trans (hb2.mono HB1.out.size))
  have HBB := Lib.hid hb
  clear hb hb2 x0 x1 x2 x3 x4 x5 x6 x7
  cases b
  · go_wp2_with (first
      | ((with_reducible refine (HC.out _).mono ?_); rintro e w3 ⟨rfl, hb3⟩; have HB3 := Lib.hid (HB2.out.trans (hb3.mono HB2.out.size)); clear hb3)
      | fail)
    go_ret
    exact retB rfl HB3.out
  have HL12 := Lib.hid (HBB.out rfl)
  by_cases hg12 : 12 < G.length
  · have t1 : decide ((12 : Int) < (G.length : Int)) = true := decide_eq_true (by omega)
    have t2 : decide (12 < G.length) = true := decide_eq_true hg12
    clear hg12
    go_wp2_with (first
      | ((with_reducible refine (HC.out _).mono ?_); rintro e w3 ⟨rfl, hb3⟩; have HB3 := Lib.hid (HB2.out.trans (hb3.mono HB2.out.size)); clear hb3)
      | fail)
    go_ret
    exact retB rfl HB3.out
  have t1 : decide ((12 : Int) < (G.length : Int)) = false := decide_eq_false (by omega)
  have t2 : decide (12 < G.length) = false := decide_eq_false hg12
  have HG12 := Lib.hid hg12
  clear hg12
  go_wp2_with fail
  go_loopw [41] (fun i wr => ∃ k : Nat, k ≤ G.length ∧ i = .int .i64 k ∧ Below w2.heap.size w2 wr) (fun i _ => G.length - (intOf i).toNat)
  case atStart => exact ⟨0, Nat.zero_le _, rfl, Below.refl _ _⟩
  case round =>
    obtain ⟨k, hk, rfl, hbel⟩ := hrel
    have HBEL := Lib.hid hbel
    by_cases hlt : k < G.length
    · obtain ⟨b, off, rfl, -, hb, hc⟩ := HG.out.at (i := k) (by simpa using hlt)
      have hlb := Nat.lt_of_lt_of_le hb HB2.out.size
      have e0 : ∀ o u, w.cell? ⟨b, o, none⟩ = some u → wr.cell? ⟨b, o, none⟩ = some u := fun o u h => (hbel.cell (p := ⟨b, o, none⟩) hlb).trans ((HB2.out.cell (p := ⟨b, o, none⟩) hb).trans h)
      have d0 := e0 (off + k * 4) _ (hc k G[k].row (by simp [hlt]) 0 _ rfl)
      have d1 := e0 (off + k * 4 + 1) _ (hc k G[k].row (by simp [hlt]) 1 _ rfl)
      have d2 := e0 (off + k * 4 + 2) _ (hc k G[k].row (by simp [hlt]) 2 _ rfl)
      have d3 := e0 (off + k * 4 + 3) _ (hc k G[k].row (by simp [hlt]) 3 _ rfl)
      clear hc hbel e0
      generalize G[k] = y at *
      obtain ⟨xn, xd, xy, xs⟩ := y
      simp only at d0 d1 d2 d3
      have tk : ((k : Nat) : Int) < (G.length : Int) := by omega
      by_cases h2 : (60 : Int) < (xn.size : Int)
      · have t3 : decide ((60 : Int) < (xn.size : Int)) = true := decide_eq_true h2
        have t4 : decide (60 < xn.size) = true := decide_eq_true (by omega)
        clear h2
        go_wp2_with (first
          | ((with_reducible refine (HC.out _).mono ?_); rintro e w3 ⟨rfl, hb3⟩; have HB3 := Lib.hid hb3; clear hb3)
          | fail)
        go_ret
        have hz := HB2.out.trans ((HBEL.out.trans ((one_below wr (.cells #[.string xn, .int .i64 xd, .int .i64 xy, .int .i64 xs] 84)).mono HBEL.out.size)).mono HB2.out.size)
        exact retB rfl (hz.trans (HB3.out.mono hz.size))
      · have t3 : decide ((60 : Int) < (xn.size : Int)) = false := decide_eq_false h2
        have t4 : decide (60 < xn.size) = false := decide_eq_false (by omega)
        clear h2
        go_wp2_with fail
        go_roundw
        case rel => exact ⟨k + 1, by omega, by go_num, HBEL.out.trans ((one_below wr _).mono HBEL.out.size)⟩
        case measure => (simp [intOf]) <;> omega
    · obtain rfl : k = G.length := by omega
      have HB3 := Lib.hid (HB2.out.trans (hbel.mono HB2.out.size))
      have HX3 := Lib.hid (blk hbel (lt_blk HX2.out) HX2.out)
      clear hbel
      go_wp2_with fail
      refine (newG_any G _ wr (HG.out.below HB3.out (Nat.le_refl _)) (by have := HG12.out; omega) hf).mono ?_
      rintro e w4 ⟨hb4, ⟨hne, rfl⟩ | ⟨hz0, bt0, bm, rfl, htab⟩⟩
      · have t5 : (tabC G != 0) = true := by simp [hne]
        have HB4 := Lib.hid (HB3.out.trans (hb4.mono HB3.out.size))
        clear hb4 hne
        go_wp2_with (first
          | ((with_reducible refine (HC.out _).mono ?_); rintro e w5 ⟨rfl, hb5⟩; have HB5 := Lib.hid (HB4.out.trans (hb5.mono HB4.out.size)); clear hb5)
          | fail)
        go_ret
        exact retB rfl HB5.out
      · have HX4 := Lib.hid (blk hb4 (lt_blk HX3.out) HX3.out)
        have HB4 := Lib.hid (HB3.out.trans (hb4.mono HB3.out.size))
        have HTB := Lib.hid htab
        have HZ := Lib.hid hz0
        have x0 := cell_blk HX4.out 0; have x1 := cell_blk HX4.out 1; have x2 := cell_blk HX4.out 2; have x3 := cell_blk HX4.out 3; have x4 := cell_blk HX4.out 4; have x5 := cell_blk HX4.out 5; have x6 := cell_blk HX4.out 6; have x7 := cell_blk HX4.out 7
        have HLO := Lib.hid (lots_any s0 s1 s2 s3 s4 s5 tm L _ w4 (HS.out.below HB4.out (Nat.le_refl _)) (by have := HL12.out; omega))
        have f1 : IntKind.i64.wrap first = first := IntWalk.i64_in _ (by omega)
        obtain ⟨hok, hnd, -⟩ := tabC_ok hz0
        have HOK := Lib.hid hok
        have HND := Lib.hid hnd
        clear hb4 htab hz0 hok hnd
        go_wp2_with (first
          | ((with_reducible refine HLO.out.mono ?_); rintro e w5 ⟨v5, rfl, ho5, hb5⟩
             have HO5 := Lib.hid ho5; have HB5 := Lib.hid (HB4.out.trans (hb5.mono HB4.out.size)); have HT5 := Lib.hid (HTB.out.below hb5); clear ho5 hb5)
          | fail)
        have hsl5 := own_lots HO5.out (by simp)
        have HSL5 := Lib.hid hsl5
        clear hsl5
        refine (pack_any G (L.map Ln.lot) first _ bt0 bm _ w5 (HAP.out.below HB5.out).1 (HAP.out.below HB5.out).2 HSL5.out (by have := HL12.out; simp; omega) HT5.out HND.out HOK.out).mono ?_
        rintro e w6 ⟨hb6, ⟨hne, rfl⟩ | ⟨hz6, v6, R, rfl, hbs, hR⟩⟩
        · have HB6 := Lib.hid (HB5.out.trans (hb6.mono HB5.out.size))
          have t6 : ((packR G first { data := #[97, 98, 99, 100] } (L.map Ln.lot)).1 != 0) = true := by simp [hne]
          clear hb6
          generalize (packR G first { data := #[97, 98, 99, 100] } (L.map Ln.lot)).1 = pc at *
          clear hne
          go_wp2_with fail
          go_ret
          exact retB rfl HB6.out
        · have hpk : packR G first { data := #[97, 98, 99, 100] } (L.map Ln.lot) = (0, R.map Bv.b) := by rw [hR, ← hz6]
          have HTP := Lib.hid (packR_top HOK.out hpk)
          have HB6 := Lib.hid (HB5.out.trans (hb6.mono HB5.out.size))
          have HSL6 := Lib.hid (HSL5.out.below hb6 (Nat.le_refl _))
          have HT6 := Lib.hid (HT5.out.below hb6)
          have HBS := Lib.hid hbs
          clear hb6 hz6 hbs hR hpk
          have HWE := Lib.hid (weight_any G (L.map Ln.lot) bt0 bm v5 w6 HSL6.out HT6.out HND.out HOK.out)
          rw [HTP.out.sumV] at HWE
          obtain ⟨wt, hwt⟩ : ∃ wt, wt = sumL G Gd.wt (L.map Ln.lot) := ⟨_, rfl⟩
          rw [← hwt] at HWE
          have HWT := Lib.hid hwt
          clear hwt
          have tm : ∀ W : World, (Instr.makeMap 94 none).run Tryz.prog W = .ok (.map (some W.heap.size)) (W.alloc (.map #[] 0)) := fun W => by kernel_rfl
          obtain ⟨a6, c6, rfl⟩ : ∃ a c, v6 = .slice a R.length c := by simpa using (own_bxs HBS.out).1.shape
          go_wp2_with (first
            | ((with_reducible refine HWE.out.mono ?_); rintro e w7 ⟨rfl, hb7⟩; have HB7 := Lib.hid (HB6.out.trans (hb7.mono HB6.out.size)); have HT7 := Lib.hid (HT6.out.below hb7); have HB67 := Lib.hid hb7; clear hb7)
            | fail)
          have HBT := Lib.hid (fun W (hW : Below w7.heap.size w7 W) => ((own_bxs HBS.out).below HB67.out).below hW)
          have HM8 : Hid (Mp.MapAt (w7.alloc (.map #[] 0)) w7.heap.size (seenE [])) := Lib.hid (Mp.MapAt.made w7)
          have HB8 : Hid (Below w7.heap.size w7 (w7.alloc (.map #[] 0))) := Lib.hid (one_below w7 _)
          generalize w7.alloc (.map #[] 0) = w8 at *
          obtain ⟨b6, hb6⟩ : ∃ b, b = w7.heap.size := ⟨_, rfl⟩
          rw [← hb6] at HM8 ⊢
          have HB6E := Lib.hid hb6
          clear hb6 tm
          have hR64 : R.length ≤ 64 := by have := HTP.out.len; rw [List.length_map] at this; exact this
          obtain ⟨M, hM⟩ : ∃ M, M = (R.map Bv.b).map Bx.mark := ⟨_, rfl⟩
          have HME := Lib.hid hM
          clear hM
          go_loopw [14, 91] (fun s i wr => ∃ n : Nat, n ≤ R.length ∧ i = .int .i64 n ∧ s = .int .i64 (wt - wtTo G (R.map Bv.b) n) ∧ Mp.MapAt wr b6 (seenE (M.take n)) ∧ Below w7.heap.size w7 wr) (fun _ i _ => R.length - (intOf i).toNat)
          case atStart => exact ⟨0, Nat.zero_le _, rfl, by simp [wtTo, allLots, sumL], HM8.out, HB8.out⟩
          case round =>
            obtain ⟨n, hn, rfl, rfl, hm, hbel⟩ := hrel
            by_cases hlt : n < R.length
            · have hmem : R[n].b ∈ R.map Bv.b := List.mem_map.2 ⟨R[n], List.getElem_mem hlt, rfl⟩
              have hbx := HTP.out.boxes _ hmem
              obtain ⟨q1, q2, q3, q4⟩ := boxOk_law hbx
              have hkd : kindOk R[n].b.kind = true := by
                have := (goP_iff.1 (boxOk_iff.1 hbx).2.2.1).1
                simpa [kindOk] using this
              have hnm : n < (R.map Bv.b).length := by simpa using hlt
              have HNX := Lib.hid (wtTo_next (t := G) hnm)
              have hgm : (R.map Bv.b)[n] = R[n].b := by simp
              rw [hgm] at HNX
              have hkM : n < M.length := by rw [HME.out]; simpa using hlt
              have hMn : M[n] = R[n].b.mark := by simp [HME.out]
              have HMN : Hid (M.take (n + 1) = M.take n ++ [R[n].b.mark]) := Lib.hid (by rw [List.take_succ_eq_append_getElem hkM, hMn])
              have HNI : Hid (R[n].b.mark ∉ M.take n) := Lib.hid (by
                have h2 := HTP.out.marks
                rw [← HME.out] at h2
                have h3 : (M.take (n + 1)).Nodup := h2.sublist (List.take_sublist _ _)
                rw [HMN.out, List.nodup_append] at h3
                exact fun h => h3.2.2 _ h _ (List.mem_singleton.2 rfl) rfl)
              obtain ⟨b, off, rfl, -, hbk, hc⟩ := (HBT.out wr hbel).1.at (i := n) (by simpa using hlt)
              have d0 : wr.cell? ⟨b, off + n * 3, none⟩ = some (.string R[n].b.mark) := hc n R[n].cells (by simp [hlt]) 0 _ rfl
              have d1 : wr.cell? ⟨b, off + n * 3 + 1, none⟩ = some (.int .i64 R[n].b.kind) := hc n R[n].cells (by simp [hlt]) 1 _ rfl
              have d2 : wr.cell? ⟨b, off + n * 3 + 2, none⟩ = some R[n].v := hc n R[n].cells (by simp [hlt]) 2 _ rfl
              have hac := wtTo_bd (sel_wt HOK.out) HTP.out.boxes n (by simpa using hn)
              have hsm0 := sumL_pos (boxOk_all hbx) (sel_wt HOK.out)
              have hwt1 : 0 ≤ wt ∧ wt ≤ 1792000 := by
                have h5 := wtTo_bd (sel_wt HOK.out) HTP.out.boxes R.length (by simp)
                have h6 := HTP.out.sum
                rw [List.length_map] at h6
                rw [h6, ← HWT.out] at h5
                omega
              have HSX := Lib.hid (fun W (hW : Below w7.heap.size w7 W) => (HBT.out W hW).2 R[n] (List.getElem_mem hlt))
              obtain ⟨ax, cx, hxv⟩ := ((HBT.out wr hbel).2 R[n] (List.getElem_mem hlt)).shape
              rw [List.length_map] at hxv
              rw [hxv] at d2 HSX
              have hsm : sumL G Gd.wt R[n].b.lots ≤ 28000 := by have := (room_le R[n].b.kind).1; omega
              have HWG := Lib.hid (fun W (hW : Below w7.heap.size w7 W) => weigh_any G R[n].b.mark R[n].b.kind R[n].b.lots _ _ bt0 bm _ W (HSX.out W hW) (HT7.out.below hW) HND.out HOK.out q2)
              have hwv : weiV R[n].b.kind (sumL G Gd.wt R[n].b.lots) 0 = .tuple #[.int .i64 (sumL G Gd.wt R[n].b.lots), .int .i64 0] := by rw [weiV, if_pos hkd, if_pos rfl, if_neg (by omega)]
              rw [hwv] at HWG
              have HRM := Lib.hid (fun W => room_any R[n].b.kind W)
              have HMR := Lib.hid (fun W (hW : Below w7.heap.size w7 W) => mkRight_any R[n].b.mark W ((HAP.out.below HB7.out).below hW).2)
              rw [q1] at HMR
              have HTG := Lib.hid (fun W (hW : Below w7.heap.size w7 W) => together_any G R[n].b.lots bt0 bm _ W ((HAP.out.below HB7.out).below hW).1 (HSX.out W hW) (HT7.out.below hW) HND.out HOK.out)
              rw [q4] at HTG
              have HBEL := Lib.hid hbel
              have HM := Lib.hid hm
              clear hbx q1 q2 q4 hkd hnm hgm hkM hMn hc hbk hxv hwv hm hbel hmem
              generalize R[n].b.mark = mk at *
              generalize R[n].b.kind = kd at *
              generalize R[n].b.lots = XL at *
              generalize sumL G Gd.wt XL = sm at *
              generalize roomW kd = rw' at *
              generalize wtTo G (R.map Bv.b) n = ac at *
              have t7 : decide (rw' < sm) = false := decide_eq_false (by omega)
              have f7 : IntKind.i64.wrap (wt - ac - sm) = wt - ac - sm := IntWalk.i64_in _ (by omega)
              have HGV := Lib.hid (seenE_val (M.take n) mk)
              rw [decide_eq_false HNI.out] at HGV
              have HPUT := Lib.hid (seenE_put HNI.out)
              have HBA := Lib.hid (HBEL.out.trans ((one_below wr (.cells #[.string mk, .int .i64 kd, .slice ax XL.length cx] 96)).mono HBEL.out.size))
              have HXA := Lib.hid (heap_alloc_new wr (.cells #[.string mk, .int .i64 kd, .slice ax XL.length cx] 96))
              have HMA := Lib.hid (HM.out.same ((one_below wr (.cells #[.string mk, .int .i64 kd, .slice ax XL.length cx] 96)).block _ HM.out.lt))
              clear q3 hsm hac hsm0 hwt1
              go_wp2_with (first
                | ((with_reducible refine (HWG.out _ HBA.out).mono ?_); rintro e w10 ⟨rfl, hb10⟩; have HB10 := Lib.hid (HBA.out.trans (hb10.mono HBA.out.size)); have HX10 := Lib.hid (blk hb10 (lt_blk HXA.out) HXA.out); have HM10 := Lib.hid (HMA.out.same (hb10.block _ HMA.out.lt)); have y1 := cell_blk HX10.out 1; clear hb10)
                | ((with_reducible refine (HRM.out _).mono ?_); rintro e w11 ⟨rfl, hb11⟩; have HB11 := Lib.hid (HB10.out.trans (hb11.mono HB10.out.size)); have HX11 := Lib.hid (blk hb11 (lt_blk HX10.out) HX10.out); have HM11 := Lib.hid (HM10.out.same (hb11.block _ HM10.out.lt)); have y0 := cell_blk HX11.out 0; clear hb11 y1)
                | ((with_reducible refine (HMR.out _ HB11.out).mono ?_); rintro e w12 ⟨rfl, hb12⟩; have HB12 := Lib.hid (HB11.out.trans (hb12.mono HB11.out.size)); have HX12 := Lib.hid (blk hb12 (lt_blk HX11.out) HX11.out); have HM12 := Lib.hid (HM11.out.same (hb12.block _ HM11.out.lt)); have z0 := cell_blk HX12.out 0; have z2 := cell_blk HX12.out 2; clear hb12 y0)
                | ((with_reducible refine Mp.wpl_lookup (b := b6) (l := seenE (M.take n)) (key := mk) ?_ ?_ ?_ Tryz.underlying94 Tryz.underlying9 (zeroBool12 _) HM12.out ?_); rfl; rfl; rfl; rw [HGV.out])
                | ((with_reducible refine (HTG.out _ HB12.out).mono ?_); rintro e w13 ⟨rfl, hb13⟩; have HB13 := Lib.hid (HB12.out.trans (hb13.mono HB12.out.size)); have HX13 := Lib.hid (blk hb13 (lt_blk HX12.out) HX12.out); have HM13 := Lib.hid (HM12.out.same (hb13.block _ HM12.out.lt)); have u0 := cell_blk HX13.out 0; clear hb13 z0 z2)
                | ((with_reducible refine Mp.wpl_update (b := b6) (l := seenE (M.take n)) (key := mk) (v := .bool true) ?_ ?_ ?_ ?_ Tryz.underlying94 Tryz.underlying9 HM13.out ?_); rfl; rfl; rfl; rfl; intro w14 hm14 hg14 hz14; rw [HPUT.out, ← HMN.out] at hm14; have HM14 := Lib.hid hm14; have HG14 := Lib.hid hg14; clear hm14 hg14 hz14; go_frame)
                | fail)
              go_roundw
              case rel => exact ⟨n + 1, by omega, by go_num, by rw [HNX.out]; congr 1; omega, HM14.out, HB13.out.grown HG14.out HB13.out.size (fun j hj => by obtain rfl : b6 = j := Option.some.inj hj; exact Nat.le_of_eq HB6E.out.symm)⟩
              case measure => (simp [intOf]) <;> omega
            · obtain rfl : n = R.length := by omega
              have hwz : wt - wtTo G (R.map Bv.b) R.length = 0 := by have h1 := HTP.out.sum; rw [List.length_map] at h1; rw [h1, HWT.out]; omega
              rw [hwz]
              have hfw := top_few HTP.out (by have := HG12.out; omega)
              have HBW := Lib.hid (HB7.out.trans (hbel.mono HB7.out.size))
              have HCN := Lib.hid (content_any R _ wr (HBT.out wr hbel) hfw)
              have hsame : joinL (lotsV R) = joinL (L.map Ln.lot) := HTP.out.same
              rw [hsame] at HCN
              have HJN := Lib.hid (fun W (hW : Below w6.heap.size w6 W) => join_any (L.map Ln.lot) _ W (HSL6.out.below hW (Nat.le_refl _)) (by have := HL12.out; simp; omega) (top_cnt HTP.out))
              have HRT := Lib.hid (fun W (hW : Below w7.heap.size w7 W) => right_any G R (L.map Ln.lot) bt0 bm _ _ W (HAP.out.below (HB7.out.trans (hW.mono HB7.out.size))) (HBT.out W hW) hfw (HSL6.out.below (HB67.out.trans (hW.mono HB67.out.size)) (Nat.le_refl _)) (by have := HL12.out; simp; omega) (top_cnt HTP.out) (HT7.out.below hW) HND.out HOK.out)
              rw [HTP.out.right] at HRT
              have HBEL := Lib.hid hbel
              generalize joinL (L.map Ln.lot) = J at *
              clear hbel hm hfw hsame hwz hlt hn
              go_upto_region 31 with (first
                | ((with_reducible refine HCN.out.mono ?_); rintro e w10 ⟨v10, rfl, ho10, hb10⟩; obtain ⟨a10, c10, rfl⟩ : ∃ a c, v10 = .slice a J.length c := (by simpa using (own_lots ho10 rfl).shape); have HS10 := Lib.hid (own_lots ho10 rfl); have HB10 := Lib.hid (HBEL.out.trans (hb10.mono HBEL.out.size)); clear ho10 hb10)
                | ((with_reducible refine (HJN.out _ (HB67.out.trans (HB10.out.mono HB67.out.size))).mono ?_); rintro e w11 ⟨v11, rfl, ho11, hb11⟩; obtain ⟨a11, c11, rfl⟩ : ∃ a c, v11 = .slice a J.length c := (by simpa using (own_lots ho11 rfl).shape); have HS11 := Lib.hid (own_lots ho11 rfl); have HS10 := Lib.hid (HS10.out.below hb11 (Nat.le_refl _)); have HB11 := Lib.hid (HB10.out.trans (hb11.mono HB10.out.size)); clear ho11 hb11)
                | ((with_reducible refine (HRT.out _ HB11.out).mono ?_); rintro e w12 ⟨rfl, hb12⟩; have HS11 := Lib.hid (HS11.out.below hb12 (Nat.le_refl _)); have HS10 := Lib.hid (HS10.out.below hb12 (Nat.le_refl _)); have HB12 := Lib.hid (HB11.out.trans (hb12.mono HB11.out.size)); clear hb12)
                | fail)
              have HJL : Hid (J.length ≤ 9223372036854775807) := Lib.hid (by have h := HS10.out.len_le; simp only [List.length_map, maxLen] at h; omega)
              go_wp2_with fail
              go_loopw [25, 166] (fun _ i wr => ∃ k : Nat, k ≤ J.length ∧ i = .int .i64 k ∧ Below w12.heap.size w12 wr) (fun _ i _ => J.length - (intOf i).toNat)
              case atStart => exact ⟨0, Nat.zero_le _, rfl, Below.refl _ _⟩
              case round =>
                obtain ⟨k, hk, rfl, hbel⟩ := hrel
                have HBK := Lib.hid hbel
                by_cases hlt : k < J.length
                · obtain ⟨b, off, rfl, -, hb, hc⟩ := HS10.out.at (i := k) (by simpa using hlt)
                  obtain ⟨b', off', rfl, -, hb', hc'⟩ := HS11.out.at (i := k) (by simpa using hlt)
                  have d0 := (hbel.cell (p := ⟨b, off + k * 2, none⟩) hb).trans (hc k J[k].row (by simp [hlt]) 0 _ rfl)
                  have d1 := (hbel.cell (p := ⟨b, off + k * 2 + 1, none⟩) hb).trans (hc k J[k].row (by simp [hlt]) 1 _ rfl)
                  have e0 := (hbel.cell (p := ⟨b', off' + k * 2, none⟩) hb').trans (hc' k J[k].row (by simp [hlt]) 0 _ rfl)
                  have e1 := (hbel.cell (p := ⟨b', off' + k * 2 + 1, none⟩) hb').trans (hc' k J[k].row (by simp [hlt]) 1 _ rfl)
                  clear hc hc'
                  generalize J[k] = x at *
                  have t1 : LtEq x x = true := ltEq_yes rfl
                  have t2 := fun w => run_neq_lt w x x
                  unfold Lt.cells at t2
                  have t3 := ltGuard
                  have tk : ((k : Nat) : Int) < (J.length : Int) := by omega
                  have hk9 : (k : Int) + 1 ≤ 9223372036854775807 := by have := HJL.out; omega
                  have HKL : Hid (k + 1 ≤ J.length) := Lib.hid hlt
                  clear hb hb' hbel
                  go_wp2_with fail
                  go_quiet (fail)
                  go_wp2_with fail
                  go_roundw
                  case rel => exact ⟨k + 1, HKL.out, by go_num, below_drewN HBK.out _⟩
                  case measure => have := HKL.out; (simp [intOf]) <;> omega
                · clear hbel
                  go_wp2_with fail
                  go_ret
                  exact retB rfl (HB7.out.trans ((HB12.out.trans (HBK.out.mono HB12.out.size)).mono HB7.out.size))
end Go.Proofs.YtbigoifpfkdkjaaGreatDoor.Sc
