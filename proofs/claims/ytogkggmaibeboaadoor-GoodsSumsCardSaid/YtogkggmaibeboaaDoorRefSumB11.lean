/- The reference's sums: of the weight and of the volume. -/
import Derived.Test.YtogkggmaibeboaaDoorRefSum11
namespace Go.Proofs.YtogkggmaibeboaaDoor.Sc
open Go Go.RowKit Go.ChangeShapes Go.WideShapes Go.ChangeAt
set_option maxRecDepth 100000

set_option maxHeartbeats 8000000 in
theorem refWeight_any (t : List Gd) (l : List Lt) (vt v : Value) (w : World) (hst : Sl w 4 vt (t.map Gd.row)) (hs : Sl w 2 v (l.map Lt.row)) (hf : ∀ x ∈ l, x.fit) (hl : l.length ≤ 4000) (hok : ∀ g ∈ t, gdOk g = true) :
    Calls Tryd.prog 30 #[vt, v, .bool false] w (Ret w (sumV t Gd.wt l)) := by
  have hll : (l.length : Int) ≤ 4000 := by omega
  have HTH := Lib.hid (there_any t l vt v w hst hs hf)
  have HFI := Lib.hid (fun n W (hW : Below w.heap.size w W) => gFind_any t n vt W (hst.below hW (Nat.le_refl _)))
  obtain ⟨a, c, rfl⟩ : ∃ a c, v = .slice a l.length c := by simpa using hs.shape
  obtain ⟨at', ct, rfl⟩ : ∃ a c, vt = .slice a t.length c := by simpa using hst.shape
  have HS := Lib.hid hs
  have HST := Lib.hid hst
  have HOK := Lib.hid hok
  clear hs hst hok hf
  by_cases h0 : lotsC t l = 0
  rotate_left
  · obtain ⟨e, he⟩ : ∃ e, e = lotsC t l := ⟨_, rfl⟩
    have HQ : Hid (sumV t Gd.wt l = .tuple #[.int .i64 0, .int .i64 e]) := Lib.hid (by rw [sumV, if_neg h0, he])
    rw [← he] at HTH h0
    have te : (e != 0) = true := by simp [h0]
    clear h0 he
    go_enter Tryd.func30, Tryd.ntmps30
    go_wp2_with (first
      | ((with_reducible refine HTH.out.mono ?_); rintro e' w2 ⟨rfl, hb2⟩; have HB := Lib.hid hb2; clear hb2)
      | fail)
    go_ret2
    exact ⟨by rw [HQ.out]; rfl, HB.out⟩
  have HV : Hid (sumV t Gd.wt l = if 1099511627776 < sumL t Gd.wt l then .tuple #[.int .i64 0, .int .i64 3] else .tuple #[.int .i64 (sumL t Gd.wt l), .int .i64 0]) := Lib.hid (by rw [sumV, if_pos h0])
  have HLO := Lib.hid (lotsC_ok h0)
  rw [h0] at HTH
  clear h0
  go_enter Tryd.func30, Tryd.ntmps30
  go_wp2_with (first
    | ((with_reducible refine HTH.out.mono ?_); rintro e' w2 ⟨rfl, hb2⟩; have HBK := Lib.hid hb2; clear hb2)
    | fail)
  go_loopw [9, 10, 11, 12] (fun s i _ _ wr => ∃ k : Nat, k ≤ l.length ∧ i = .int .i64 k ∧ s = .int .i64 (sumL t Gd.wt (l.take k)) ∧ 0 ≤ sumL t Gd.wt (l.take k) ∧ sumL t Gd.wt (l.take k) ≤ k * 1099511627776 ∧ Below w.heap.size w wr) (fun _ i _ _ _ => l.length - (intOf i).toNat)
  case atStart => exact ⟨0, Nat.zero_le _, rfl, rfl, (by simp [sumL]), (by simp [sumL]), HBK.out⟩
  case round =>
    obtain ⟨k, hk, rfl, rfl, hs0, hsr, hbel⟩ := hrel
    have HBEL := Lib.hid hbel
    by_cases hlt : k < l.length
    · obtain ⟨b, off, rfl, -, hb, hc⟩ := HS.out.at (i := k) (by simpa using hlt)
      have HDL : Hid (∀ W, Below w.heap.size w W → W.cell? ⟨b, off + k * 2, none⟩ = some (.string l[k].good) ∧ W.cell? ⟨b, off + k * 2 + 1, none⟩ = some (.int .i64 l[k].cnt)) := Lib.hid (fun W hW =>
        ⟨(hW.cell (p := ⟨b, off + k * 2, none⟩) hb).trans (hc k l[k].row (by simp [hlt]) 0 _ rfl), (hW.cell (p := ⟨b, off + k * 2 + 1, none⟩) hb).trans (hc k l[k].row (by simp [hlt]) 1 _ rfl)⟩)
      have hnx := sumL_next t Gd.wt (k := k) hlt
      obtain ⟨hlo, ⟨g, hgo⟩⟩ := HLO.out l[k] (List.getElem_mem hlt)
      have htm := tmL_range (t := t) (f := Gd.wt) hlo hgo (sel_wt HOK.out)
      have hte : tmL t Gd.wt l[k] = l[k].cnt * Gd.wt g := by rw [tmL, hgo]
      have tk : ((k : Nat) : Int) < (l.length : Int) := by omega
      generalize l[k] = x at *
      obtain ⟨xn, xc⟩ := x
      simp only at HDL hgo hte
      rcases gFind_of xn t 0 with ⟨h1, h2⟩ | ⟨j, hj, h1, h2⟩
      · rw [hgo] at h2; cases h2
      rw [hgo] at h2
      obtain rfl := Option.some.inj h2
      obtain ⟨bg, offg, rfl, -, hbg, hcg⟩ := HST.out.at (i := j) (by simpa using hj)
      have hrj : (t.map Gd.row)[j]? = some t[j].row := by rw [List.getElem?_map, List.getElem?_eq_getElem hj]; rfl
      have HDG : Hid (∀ W, Below w.heap.size w W → W.cell? ⟨bg, offg + j * 4, none⟩ = some (.string t[j].code) ∧ W.cell? ⟨bg, offg + j * 4 + 1, none⟩ = some (.int .i64 t[j].cls) ∧ W.cell? ⟨bg, offg + j * 4 + 2, none⟩ = some (.int .i64 t[j].wt) ∧ W.cell? ⟨bg, offg + j * 4 + 3, none⟩ = some (.int .i64 t[j].vol)) := Lib.hid (fun W hW =>
        ⟨(hW.cell (p := ⟨bg, offg + j * 4, none⟩) hbg).trans (hcg j _ hrj 0 _ rfl), (hW.cell (p := ⟨bg, offg + j * 4 + 1, none⟩) hbg).trans (hcg j _ hrj 1 _ rfl), (hW.cell (p := ⟨bg, offg + j * 4 + 2, none⟩) hbg).trans (hcg j _ hrj 2 _ rfl), (hW.cell (p := ⟨bg, offg + j * 4 + 3, none⟩) hbg).trans (hcg j _ hrj 3 _ rfl)⟩)
      have tj : ((j : Nat) : Int) < (t.length : Int) := by omega
      have HFX := Lib.hid (HFI.out xn)
      rw [h1, Nat.zero_add] at HFX
      clear hc hcg hrj h1 h2 hgo hlo hbg hb
      generalize t[j] = y at *
      obtain ⟨gn, gc, gw, gv⟩ := y
      simp only at HDG hte
      rw [Int.mul_comm] at hte
      rw [hte] at htm hnx
      have HSN := Lib.hid hnx
      generalize sumL t Gd.wt (l.take k) = S at *
      generalize hT : gw * xc = T at *
      clear hnx hbel hte
      obtain ⟨d0, d1⟩ := HDL.out wr HBEL.out
      go_wp2_with (first
        | ((with_reducible refine (HFX.out _ HBEL.out).mono ?_); rintro e w3 ⟨rfl, hb3⟩; have HB3 := Lib.hid (HBEL.out.trans (hb3.mono HBEL.out.size)); have HX := Lib.hid (heap_alloc_new w3 (.cells #[.string gn, .int .i64 gc, .int .i64 gw, .int .i64 gv] 36)); have HB4 := Lib.hid (HB3.out.alloc HB3.out.size (.cells #[.string gn, .int .i64 gc, .int .i64 gw, .int .i64 gv] 36)); obtain ⟨y0, y1, y2, y3⟩ := HDG.out w3 HB3.out; obtain ⟨z0, z1⟩ := HDL.out _ HB4.out; clear hb3)
        | fail)
      go_roundw
      case rel => exact ⟨k + 1, by omega, by go_num, by rw [HSN.out], by rw [HSN.out]; omega, by rw [HSN.out]; push_cast; omega, HB4.out⟩
      case measure => (simp [intOf]) <;> omega
    · obtain rfl : k = l.length := by omega
      rw [List.take_length] at hs0 hsr ⊢
      generalize sumL t Gd.wt l = S at *
      by_cases hm : 1099511627776 < S
      · have tm : decide (1099511627776 < S) = true := decide_eq_true hm
        have HQ := Lib.hid (HV.out.trans (if_pos hm))
        clear hm hbel
        go_wp2_with fail
        go_ret2
        exact ⟨by rw [HQ.out]; rfl, HBEL.out⟩
      · have tm : decide (1099511627776 < S) = false := decide_eq_false hm
        have HQ := Lib.hid (HV.out.trans (if_neg hm))
        clear hm hbel
        go_wp2_with fail
        go_ret2
        exact ⟨by rw [HQ.out]; rfl, HBEL.out⟩

set_option maxHeartbeats 8000000 in
theorem refVolume_any (t : List Gd) (l : List Lt) (vt v : Value) (w : World) (hst : Sl w 4 vt (t.map Gd.row)) (hs : Sl w 2 v (l.map Lt.row)) (hf : ∀ x ∈ l, x.fit) (hl : l.length ≤ 4000) (hok : ∀ g ∈ t, gdOk g = true) :
    Calls Tryd.prog 30 #[vt, v, .bool true] w (Ret w (sumV t Gd.vol l)) := by
  have hll : (l.length : Int) ≤ 4000 := by omega
  have HTH := Lib.hid (there_any t l vt v w hst hs hf)
  have HFI := Lib.hid (fun n W (hW : Below w.heap.size w W) => gFind_any t n vt W (hst.below hW (Nat.le_refl _)))
  obtain ⟨a, c, rfl⟩ : ∃ a c, v = .slice a l.length c := by simpa using hs.shape
  obtain ⟨at', ct, rfl⟩ : ∃ a c, vt = .slice a t.length c := by simpa using hst.shape
  have HS := Lib.hid hs
  have HST := Lib.hid hst
  have HOK := Lib.hid hok
  clear hs hst hok hf
  by_cases h0 : lotsC t l = 0
  rotate_left
  · obtain ⟨e, he⟩ : ∃ e, e = lotsC t l := ⟨_, rfl⟩
    have HQ : Hid (sumV t Gd.vol l = .tuple #[.int .i64 0, .int .i64 e]) := Lib.hid (by rw [sumV, if_neg h0, he])
    rw [← he] at HTH h0
    have te : (e != 0) = true := by simp [h0]
    clear h0 he
    go_enter Tryd.func30, Tryd.ntmps30
    go_wp2_with (first
      | ((with_reducible refine HTH.out.mono ?_); rintro e' w2 ⟨rfl, hb2⟩; have HB := Lib.hid hb2; clear hb2)
      | fail)
    go_ret2
    exact ⟨by rw [HQ.out]; rfl, HB.out⟩
  have HV : Hid (sumV t Gd.vol l = if 1099511627776 < sumL t Gd.vol l then .tuple #[.int .i64 0, .int .i64 3] else .tuple #[.int .i64 (sumL t Gd.vol l), .int .i64 0]) := Lib.hid (by rw [sumV, if_pos h0])
  have HLO := Lib.hid (lotsC_ok h0)
  rw [h0] at HTH
  clear h0
  go_enter Tryd.func30, Tryd.ntmps30
  go_wp2_with (first
    | ((with_reducible refine HTH.out.mono ?_); rintro e' w2 ⟨rfl, hb2⟩; have HBK := Lib.hid hb2; clear hb2)
    | fail)
  go_loopw [9, 10, 11, 12] (fun s i _ _ wr => ∃ k : Nat, k ≤ l.length ∧ i = .int .i64 k ∧ s = .int .i64 (sumL t Gd.vol (l.take k)) ∧ 0 ≤ sumL t Gd.vol (l.take k) ∧ sumL t Gd.vol (l.take k) ≤ k * 1099511627776 ∧ Below w.heap.size w wr) (fun _ i _ _ _ => l.length - (intOf i).toNat)
  case atStart => exact ⟨0, Nat.zero_le _, rfl, rfl, (by simp [sumL]), (by simp [sumL]), HBK.out⟩
  case round =>
    obtain ⟨k, hk, rfl, rfl, hs0, hsr, hbel⟩ := hrel
    have HBEL := Lib.hid hbel
    by_cases hlt : k < l.length
    · obtain ⟨b, off, rfl, -, hb, hc⟩ := HS.out.at (i := k) (by simpa using hlt)
      have HDL : Hid (∀ W, Below w.heap.size w W → W.cell? ⟨b, off + k * 2, none⟩ = some (.string l[k].good) ∧ W.cell? ⟨b, off + k * 2 + 1, none⟩ = some (.int .i64 l[k].cnt)) := Lib.hid (fun W hW =>
        ⟨(hW.cell (p := ⟨b, off + k * 2, none⟩) hb).trans (hc k l[k].row (by simp [hlt]) 0 _ rfl), (hW.cell (p := ⟨b, off + k * 2 + 1, none⟩) hb).trans (hc k l[k].row (by simp [hlt]) 1 _ rfl)⟩)
      have hnx := sumL_next t Gd.vol (k := k) hlt
      obtain ⟨hlo, ⟨g, hgo⟩⟩ := HLO.out l[k] (List.getElem_mem hlt)
      have htm := tmL_range (t := t) (f := Gd.vol) hlo hgo (sel_vol HOK.out)
      have hte : tmL t Gd.vol l[k] = l[k].cnt * Gd.vol g := by rw [tmL, hgo]
      have tk : ((k : Nat) : Int) < (l.length : Int) := by omega
      generalize l[k] = x at *
      obtain ⟨xn, xc⟩ := x
      simp only at HDL hgo hte
      rcases gFind_of xn t 0 with ⟨h1, h2⟩ | ⟨j, hj, h1, h2⟩
      · rw [hgo] at h2; cases h2
      rw [hgo] at h2
      obtain rfl := Option.some.inj h2
      obtain ⟨bg, offg, rfl, -, hbg, hcg⟩ := HST.out.at (i := j) (by simpa using hj)
      have hrj : (t.map Gd.row)[j]? = some t[j].row := by rw [List.getElem?_map, List.getElem?_eq_getElem hj]; rfl
      have HDG : Hid (∀ W, Below w.heap.size w W → W.cell? ⟨bg, offg + j * 4, none⟩ = some (.string t[j].code) ∧ W.cell? ⟨bg, offg + j * 4 + 1, none⟩ = some (.int .i64 t[j].cls) ∧ W.cell? ⟨bg, offg + j * 4 + 2, none⟩ = some (.int .i64 t[j].wt) ∧ W.cell? ⟨bg, offg + j * 4 + 3, none⟩ = some (.int .i64 t[j].vol)) := Lib.hid (fun W hW =>
        ⟨(hW.cell (p := ⟨bg, offg + j * 4, none⟩) hbg).trans (hcg j _ hrj 0 _ rfl), (hW.cell (p := ⟨bg, offg + j * 4 + 1, none⟩) hbg).trans (hcg j _ hrj 1 _ rfl), (hW.cell (p := ⟨bg, offg + j * 4 + 2, none⟩) hbg).trans (hcg j _ hrj 2 _ rfl), (hW.cell (p := ⟨bg, offg + j * 4 + 3, none⟩) hbg).trans (hcg j _ hrj 3 _ rfl)⟩)
      have tj : ((j : Nat) : Int) < (t.length : Int) := by omega
      have HFX := Lib.hid (HFI.out xn)
      rw [h1, Nat.zero_add] at HFX
      clear hc hcg hrj h1 h2 hgo hlo hbg hb
      generalize t[j] = y at *
      obtain ⟨gn, gc, gw, gv⟩ := y
      simp only at HDG hte
      rw [Int.mul_comm] at hte
      rw [hte] at htm hnx
      have HSN := Lib.hid hnx
      generalize sumL t Gd.vol (l.take k) = S at *
      generalize hT : gv * xc = T at *
      clear hnx hbel hte
      obtain ⟨d0, d1⟩ := HDL.out wr HBEL.out
      go_wp2_with (first
        | ((with_reducible refine (HFX.out _ HBEL.out).mono ?_); rintro e w3 ⟨rfl, hb3⟩; have HB3 := Lib.hid (HBEL.out.trans (hb3.mono HBEL.out.size)); have HX := Lib.hid (heap_alloc_new w3 (.cells #[.string gn, .int .i64 gc, .int .i64 gw, .int .i64 gv] 36)); have HB4 := Lib.hid (HB3.out.alloc HB3.out.size (.cells #[.string gn, .int .i64 gc, .int .i64 gw, .int .i64 gv] 36)); obtain ⟨y0, y1, y2, y3⟩ := HDG.out w3 HB3.out; obtain ⟨z0, z1⟩ := HDL.out _ HB4.out; clear hb3)
        | fail)
      go_roundw
      case rel => exact ⟨k + 1, by omega, by go_num, by rw [HSN.out], by rw [HSN.out]; omega, by rw [HSN.out]; push_cast; omega, HB4.out⟩
      case measure => (simp [intOf]) <;> omega
    · obtain rfl : k = l.length := by omega
      rw [List.take_length] at hs0 hsr ⊢
      generalize sumL t Gd.vol l = S at *
      by_cases hm : 1099511627776 < S
      · have tm : decide (1099511627776 < S) = true := decide_eq_true hm
        have HQ := Lib.hid (HV.out.trans (if_pos hm))
        clear hm hbel
        go_wp2_with fail
        go_ret2
        exact ⟨by rw [HQ.out]; rfl, HBEL.out⟩
      · have tm : decide (1099511627776 < S) = false := decide_eq_false hm
        have HQ := Lib.hid (HV.out.trans (if_neg hm))
        clear hm hbel
        go_wp2_with fail
        go_ret2
        exact ⟨by rw [HQ.out]; rfl, HBEL.out⟩

end Go.Proofs.YtogkggmaibeboaaDoor.Sc
