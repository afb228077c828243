/- Lots joined: by the reference. -/
import Derived.Test.YtgnfdplphpejaaaGreatDoorRefSum11
import Derived.Test.YtgnfdplphpejaaaGreatDoorJoinB11
import Derived.Test.YtgnfdplphpejaaaGreatDoorCut
import Derived.StillTailTactics
namespace Go.Proofs.YtgnfdplphpejaaaGreatDoor.Sc
open Go Go.RowKit Go.ChangeShapes Go.WideShapes Go.ChangeAt
set_option maxRecDepth 100000

set_option maxHeartbeats 8000000 in
theorem refWeight_any (t : List Gd) (l : List Lt) (vt v : Value) (w : World) (hst : Sl w 4 vt (t.map Gd.row)) (hs : Sl w 2 v (l.map Lt.row)) (hf : ∀ x ∈ l, x.fit) (hl : l.length ≤ 4000) (hok : ∀ g ∈ t, gdOk g = true) :
    Calls Tryz.prog 34 #[vt, v, .bool false] w (Ret w (sumV t Gd.wt l)) := by
  have hll : (l.length : Int) ≤ 4000 := by omega
  have HTH := Lib.hid (there_any t l vt v w hst hs hf)
  have HFI := Lib.hid (fun n W (hW : Below w.heap.size w W) => gFind_any t n vt W (hst.below hW (Nat.le_refl _)))
  obtain ⟨a, c, rfl⟩ : ∃ a c, v = .slice a l.length c := by simpa using hs.shape
  obtain ⟨at', ct, rfl⟩ : ∃ a c, vt = .slice a t.length c := by simpa using hst.shape
  have HS := Lib.hid hs
  have HST := Lib.hid hst
  have HOK := Lib.hid hok
  clear hs hst hok hf
  by_cases h0 : lotsC t l = 0
  rotate_left
  · obtain ⟨e, he⟩ : ∃ e, e = lotsC t l := ⟨_, rfl⟩
    have HQ : Hid (sumV t Gd.wt l = .tuple #[.int .i64 0, .int .i64 e]) := Lib.hid (by rw [sumV, if_neg h0, he])
    rw [← he] at HTH h0
    have te : (e != 0) = true := by simp [h0]
    clear h0 he
    go_enter Tryz.func34, Tryz.ntmps34
    go_wp2_with (first
      | ((with_reducible refine HTH.out.mono ?_); rintro e' w2 ⟨rfl, hb2⟩; have HB := Lib.hid hb2; clear hb2)
      | fail)
    go_ret2
    exact ⟨by rw [HQ.out]; rfl, HB.out⟩
  have HV : Hid (sumV t Gd.wt l = if 1099511627776 < sumL t Gd.wt l then .tuple #[.int .i64 0, .int .i64 3] else .tuple #[.int .i64 (sumL t Gd.wt l), .int .i64 0]) := Lib.hid (by rw [sumV, if_pos h0])
  have HLO := Lib.hid (lotsC_ok h0)
  rw [h0] at HTH
  clear h0
  go_enter Tryz.func34, Tryz.ntmps34
  go_wp2_with (first
    | ((with_reducible refine HTH.out.mono ?_); rintro e' w2 ⟨rfl, hb2⟩; have HBK := Lib.hid hb2; clear hb2)
    | fail)
  go_loopw [9, 10, 11, 12] (fun s i _ _ wr => ∃ k : Nat, k ≤ l.length ∧ i = .int .i64 k ∧ s = .int .i64 (sumL t Gd.wt (l.take k)) ∧ 0 ≤ sumL t Gd.wt (l.take k) ∧ sumL t Gd.wt (l.take k) ≤ k * 1099511627776 ∧ Below w.heap.size w wr) (fun _ i _ _ _ => l.length - (intOf i).toNat)
  case atStart => exact ⟨0, Nat.zero_le _, rfl, rfl, (by simp [sumL]), (by simp [sumL]), HBK.out⟩
  case round =>
    obtain ⟨k, hk, rfl, rfl, hs0, hsr, hbel⟩ := hrel
    have HBEL := Lib.hid hbel
    by_cases hlt : k < l.length
    · obtain ⟨b, off, rfl, -, hb, hc⟩ := HS.out.at (i := k) (by simpa using hlt)
      have HDL : Hid (∀ W, Below w.heap.size w W → W.cell? ⟨b, off + k * 2, none⟩ = some (.string l[k].good) ∧ W.cell? ⟨b, off + k * 2 + 1, none⟩ = some (.int .i64 l[k].cnt)) := Lib.hid (fun W hW =>
        ⟨(hW.cell (p := ⟨b, off + k * 2, none⟩) hb).trans (hc k l[k].row (by simp [hlt]) 0 _ rfl), (hW.cell (p := ⟨b, off + k * 2 + 1, none⟩) hb).trans (hc k l[k].row (by simp [hlt]) 1 _ rfl)⟩)
      have hnx := sumL_next t Gd.wt (k := k) hlt
      obtain ⟨hlo, ⟨g, hgo⟩⟩ := HLO.out l[k] (List.getElem_mem hlt)
      have htm := tmL_range (t := t) (f := Gd.wt) hlo hgo (sel_wt HOK.out)
      have hte : tmL t Gd.wt l[k] = l[k].cnt * Gd.wt g := by rw [tmL, hgo]
      have tk : ((k : Nat) : Int) < (l.length : Int) := by omega
      generalize l[k] = x at *
      obtain ⟨xn, xc⟩ := x
      simp only at HDL hgo hte
      rcases gFind_of xn t 0 with ⟨h1, h2⟩ | ⟨j, hj, h1, h2⟩
      · rw [hgo] at h2; cases h2
      rw [hgo] at h2
      obtain rfl := Option.some.inj h2
      obtain ⟨bg, offg, rfl, -, hbg, hcg⟩ := HST.out.at (i := j) (by simpa using hj)
      have hrj : (t.map Gd.row)[j]? = some t[j].row := by rw [List.getElem?_map, List.getElem?_eq_getElem hj]; rfl
      have HDG : Hid (∀ W, Below w.heap.size w W → W.cell? ⟨bg, offg + j * 4, none⟩ = some (.string t[j].code) ∧ W.cell? ⟨bg, offg + j * 4 + 1, none⟩ = some (.int .i64 t[j].cls) ∧ W.cell? ⟨bg, offg + j * 4 + 2, none⟩ = some (.int .i64 t[j].wt) ∧ W.cell? ⟨bg, offg + j * 4 + 3, none⟩ = some (.int .i64 t[j].vol)) := Lib.hid (fun W hW =>
        ⟨(hW.cell (p := ⟨bg, offg + j * 4, none⟩) hbg).trans (hcg j _ hrj 0 _ rfl), (hW.cell (p := ⟨bg, offg + j * 4 + 1, none⟩) hbg).trans (hcg j _ hrj 1 _ rfl), (hW.cell (p := ⟨bg, offg + j * 4 + 2, none⟩) hbg).trans (hcg j _ hrj 2 _ rfl), (hW.cell (p := ⟨bg, offg + j * 4 + 3, none⟩) hbg).trans (hcg j _ hrj 3 _ rfl)⟩)
      have tj : ((j : Nat) : Int) < (t.length : Int) := by omega
      have HFX := Lib.hid (HFI.out xn)
      rw [h1, Nat.zero_add] at HFX
      clear hc hcg hrj h1 h2 hgo hlo hbg hb
      generalize t[j] = y at *
      obtain ⟨gn, gc, gw, gv⟩ := y
      simp only at HDG hte
      rw [Int.mul_comm] at hte
      rw [hte] at htm hnx
      have HSN := Lib.hid hnx
      generalize sumL t Gd.wt (l.take k) = S at *
      generalize hT : gw * xc = T at *
      clear hnx hbel hte
      obtain ⟨d0, d1⟩ := HDL.out wr HBEL.out
      go_wp2_with (first
        | ((with_reducible refine (HFX.out _ HBEL.out).mono ?_); rintro e w3 ⟨rfl, hb3⟩; have HB3 := Lib.hid (HBEL.out.trans (hb3.mono HBEL.out.size)); have HX := Lib.hid (heap_alloc_new w3 (.cells #[.string gn, .int .i64 gc, .int .i64 gw, .int .i64 gv] 51)); have HB4 := Lib.hid (HB3.out.alloc HB3.out.size (.cells #[.string gn, .int .i64 gc, .int .i64 gw, .int .i64 gv] 51)); obtain ⟨y0, y1, y2, y3⟩ := HDG.out w3 HB3.out; obtain ⟨z0, z1⟩ := HDL.out _ HB4.out; clear hb3)
        | fail)
      go_roundw
      case rel => exact ⟨k + 1, by omega, by go_num, by rw [HSN.out], by rw [HSN.out]; omega, by rw [HSN.out]; push_cast; omega, HB4.out⟩
      case measure => (simp [intOf]) <;> omega
    · obtain rfl : k = l.length := by omega
      rw [List.take_length] at hs0 hsr ⊢
      generalize sumL t Gd.wt l = S at *
      by_cases hm : 1099511627776 < S
      · have tm : decide (1099511627776 < S) = true := decide_eq_true hm
        have HQ := Lib.hid (HV.out.trans (if_pos hm))
        clear hm hbel
        go_wp2_with fail
        go_ret2
        exact ⟨by rw [HQ.out]; rfl, HBEL.out⟩
      · have tm : decide (1099511627776 < S) = false := decide_eq_false hm
        have HQ := Lib.hid (HV.out.trans (if_neg hm))
        clear hm hbel
        go_wp2_with fail
        go_ret2
        exact ⟨by rw [HQ.out]; rfl, HBEL.out⟩

set_option maxHeartbeats 8000000 in
theorem refVolume_any (t : List Gd) (l : List Lt) (vt v : Value) (w : World) (hst : Sl w 4 vt (t.map Gd.row)) (hs : Sl w 2 v (l.map Lt.row)) (hf : ∀ x ∈ l, x.fit) (hl : l.length ≤ 4000) (hok : ∀ g ∈ t, gdOk g = true) :
    Calls Tryz.prog 34 #[vt, v, .bool true] w (Ret w (sumV t Gd.vol l)) := by
  have hll : (l.length : Int) ≤ 4000 := by omega
  have HTH := Lib.hid (there_any t l vt v w hst hs hf)
  have HFI := Lib.hid (fun n W (hW : Below w.heap.size w W) => gFind_any t n vt W (hst.below hW (Nat.le_refl _)))
  obtain ⟨a, c, rfl⟩ : ∃ a c, v = .slice a l.length c := by simpa using hs.shape
  obtain ⟨at', ct, rfl⟩ : ∃ a c, vt = .slice a t.length c := by simpa using hst.shape
  have HS := Lib.hid hs
  have HST := Lib.hid hst
  have HOK := Lib.hid hok
  clear hs hst hok hf
  by_cases h0 : lotsC t l = 0
  rotate_left
  · obtain ⟨e, he⟩ : ∃ e, e = lotsC t l := ⟨_, rfl⟩
    have HQ : Hid (sumV t Gd.vol l = .tuple #[.int .i64 0, .int .i64 e]) := Lib.hid (by rw [sumV, if_neg h0, he])
    rw [← he] at HTH h0
    have te : (e != 0) = true := by simp [h0]
    clear h0 he
    go_enter Tryz.func34, Tryz.ntmps34
    go_wp2_with (first
      | ((with_reducible refine HTH.out.mono ?_); rintro e' w2 ⟨rfl, hb2⟩; have HB := Lib.hid hb2; clear hb2)
      | fail)
    go_ret2
    exact ⟨by rw [HQ.out]; rfl, HB.out⟩
  have HV : Hid (sumV t Gd.vol l = if 1099511627776 < sumL t Gd.vol l then .tuple #[.int .i64 0, .int .i64 3] else .tuple #[.int .i64 (sumL t Gd.vol l), .int .i64 0]) := Lib.hid (by rw [sumV, if_pos h0])
  have HLO := Lib.hid (lotsC_ok h0)
  rw [h0] at HTH
  clear h0
  go_enter Tryz.func34, Tryz.ntmps34
  go_wp2_with (first
    | ((with_reducible refine HTH.out.mono ?_); rintro e' w2 ⟨rfl, hb2⟩; have HBK := Lib.hid hb2; clear hb2)
    | fail)
  go_loopw [9, 10, 11, 12] (fun s i _ _ wr => ∃ k : Nat, k ≤ l.length ∧ i = .int .i64 k ∧ s = .int .i64 (sumL t Gd.vol (l.take k)) ∧ 0 ≤ sumL t Gd.vol (l.take k) ∧ sumL t Gd.vol (l.take k) ≤ k * 1099511627776 ∧ Below w.heap.size w wr) (fun _ i _ _ _ => l.length - (intOf i).toNat)
  case atStart => exact ⟨0, Nat.zero_le _, rfl, rfl, (by simp [sumL]), (by simp [sumL]), HBK.out⟩
  case round =>
    obtain ⟨k, hk, rfl, rfl, hs0, hsr, hbel⟩ := hrel
    have HBEL := Lib.hid hbel
    by_cases hlt : k < l.length
    · obtain ⟨b, off, rfl, -, hb, hc⟩ := HS.out.at (i := k) (by simpa using hlt)
      have HDL : Hid (∀ W, Below w.heap.size w W → W.cell? ⟨b, off + k * 2, none⟩ = some (.string l[k].good) ∧ W.cell? ⟨b, off + k * 2 + 1, none⟩ = some (.int .i64 l[k].cnt)) := Lib.hid (fun W hW =>
        ⟨(hW.cell (p := ⟨b, off + k * 2, none⟩) hb).trans (hc k l[k].row (by simp [hlt]) 0 _ rfl), (hW.cell (p := ⟨b, off + k * 2 + 1, none⟩) hb).trans (hc k l[k].row (by simp [hlt]) 1 _ rfl)⟩)
      have hnx := sumL_next t Gd.vol (k := k) hlt
      obtain ⟨hlo, ⟨g, hgo⟩⟩ := HLO.out l[k] (List.getElem_mem hlt)
      have htm := tmL_range (t := t) (f := Gd.vol) hlo hgo (sel_vol HOK.out)
      have hte : tmL t Gd.vol l[k] = l[k].cnt * Gd.vol g := by rw [tmL, hgo]
      have tk : ((k : Nat) : Int) < (l.length : Int) := by omega
      generalize l[k] = x at *
      obtain ⟨xn, xc⟩ := x
      simp only at HDL hgo hte
      rcases gFind_of xn t 0 with ⟨h1, h2⟩ | ⟨j, hj, h1, h2⟩
      · rw [hgo] at h2; cases h2
      rw [hgo] at h2
      obtain rfl := Option.some.inj h2
      obtain ⟨bg, offg, rfl, -, hbg, hcg⟩ := HST.out.at (i := j) (by simpa using hj)
      have hrj : (t.map Gd.row)[j]? = some t[j].row := by rw [List.getElem?_map, List.getElem?_eq_getElem hj]; rfl
      have HDG : Hid (∀ W, Below w.heap.size w W → W.cell? ⟨bg, offg + j * 4, none⟩ = some (.string t[j].code) ∧ W.cell? ⟨bg, offg + j * 4 + 1, none⟩ = some (.int .i64 t[j].cls) ∧ W.cell? ⟨bg, offg + j * 4 + 2, none⟩ = some (.int .i64 t[j].wt) ∧ W.cell? ⟨bg, offg + j * 4 + 3, none⟩ = some (.int .i64 t[j].vol)) := Lib.hid (fun W hW =>
        ⟨(hW.cell (p := ⟨bg, offg + j * 4, none⟩) hbg).trans (hcg j _ hrj 0 _ rfl), (hW.cell (p := ⟨bg, offg + j * 4 + 1, none⟩) hbg).trans (hcg j _ hrj 1 _ rfl), (hW.cell (p := ⟨bg, offg + j * 4 + 2, none⟩) hbg).trans (hcg j _ hrj 2 _ rfl), (hW.cell (p := ⟨bg, offg + j * 4 + 3, none⟩) hbg).trans (hcg j _ hrj 3 _ rfl)⟩)
      have tj : ((j : Nat) : Int) < (t.length : Int) := by omega
      have HFX := Lib.hid (HFI.out xn)
      rw [h1, Nat.zero_add] at HFX
      clear hc hcg hrj h1 h2 hgo hlo hbg hb
      generalize t[j] = y at *
      obtain ⟨gn, gc, gw, gv⟩ := y
      simp only at HDG hte
      rw [Int.mul_comm] at hte
      rw [hte] at htm hnx
      have HSN := Lib.hid hnx
      generalize sumL t Gd.vol (l.take k) = S at *
      generalize hT : gv * xc = T at *
      clear hnx hbel hte
      obtain ⟨d0, d1⟩ := HDL.out wr HBEL.out
      go_wp2_with (first
        | ((with_reducible refine (HFX.out _ HBEL.out).mono ?_); rintro e w3 ⟨rfl, hb3⟩; have HB3 := Lib.hid (HBEL.out.trans (hb3.mono HBEL.out.size)); have HX := Lib.hid (heap_alloc_new w3 (.cells #[.string gn, .int .i64 gc, .int .i64 gw, .int .i64 gv] 51)); have HB4 := Lib.hid (HB3.out.alloc HB3.out.size (.cells #[.string gn, .int .i64 gc, .int .i64 gw, .int .i64 gv] 51)); obtain ⟨y0, y1, y2, y3⟩ := HDG.out w3 HB3.out; obtain ⟨z0, z1⟩ := HDL.out _ HB4.out; clear hb3)
        | fail)
      go_roundw
      case rel => exact ⟨k + 1, by omega, by go_num, by rw [HSN.out], by rw [HSN.out]; omega, by rw [HSN.out]; push_cast; omega, HB4.out⟩
      case measure => (simp [intOf]) <;> omega
    · obtain rfl : k = l.length := by omega
      rw [List.take_length] at hs0 hsr ⊢
      generalize sumL t Gd.vol l = S at *
      by_cases hm : 1099511627776 < S
      · have tm : decide (1099511627776 < S) = true := decide_eq_true hm
        have HQ := Lib.hid (HV.out.trans (if_pos hm))
        clear hm hbel
        go_wp2_with fail
        go_ret2
        exact ⟨by rw [HQ.out]; rfl, HBEL.out⟩
      · have tm : decide (1099511627776 < S) = false := decide_eq_false hm
        have HQ := Lib.hid (HV.out.trans (if_neg hm))
        clear hm hbel
        go_wp2_with fail
        go_ret2
        exact ⟨by rw [HQ.out]; rfl, HBEL.out⟩

end Go.Proofs.YtgnfdplphpejaaaGreatDoor.Sc
namespace Go.Proofs.YtgnfdplphpejaaaGreatDoor.Sc
open Go Go.RowKit Go.ChangeShapes Go.WideShapes Go.ChangeAt
set_option maxRecDepth 100000

theorem own_pos {w : World} {B sz n : Nat} {e : TypeId} {v : Value} {xs : List Value} (h : w.ownsRow B e sz v n xs) (hn : 0 < n) : ∃ g cap cur, v = .slice (some ⟨g, 0, none⟩) n cap ∧ w.heap[g]? = some (.cells cur e (0, 0)) ∧ B ≤ g := by
  rcases h.2 with ⟨_, h0⟩ | ⟨g, cap, cur, rfl, hg, hh, _⟩
  · omega
  · exact ⟨g, cap, cur, rfl, hh, hg⟩
theorem own_cell {w : World} {B n sz : Nat} {e : TypeId} {g cap : Nat} {xs : List Value} (h : w.ownsRow B e sz (.slice (some ⟨g, 0, none⟩) n cap) n xs) (j : Nat) (u : Value) :
    (w.setCell ⟨g, j, none⟩ u).ownsRow B e sz (.slice (some ⟨g, 0, none⟩) n cap) n (xs.set j u) := by
  obtain ⟨h1, h2⟩ := h
  rcases h2 with ⟨h2, _⟩ | ⟨g', cap', cur, hv, hB, hh, h3, h4, h5, h6⟩
  · cases h2
  simp only [Value.slice.injEq, Option.some.injEq, Addr.mk.injEq, and_true, true_and] at hv
  obtain ⟨rfl, rfl⟩ := hv
  refine ⟨by simpa using h1, .inr ⟨g, cap, cur.setIfInBounds j u, rfl, hB, ?_, h3, h4, by simpa using h5, ?_⟩⟩
  · simp [World.setCell, Array.getElem?_modify, hh]
  · rw [Array.toList_setIfInBounds, ← h6, List.take_set]
theorem ltCells_len (l : List Lt) : (ltCells l).length = l.length * 2 := by
  induction l with
  | nil => rfl
  | cons x r ih => simp only [ltCells, List.flatMap_cons, List.length_append, Lt.row, List.length_cons, List.length_nil] at *; omega
theorem ltCells_set : ∀ {l : List Lt} {k : Nat} (h : k < l.length) (c : Int), (ltCells l).set (k * 2 + 1) (.int .i64 c) = ltCells (l.set k ⟨l[k].good, c⟩)
  | x :: r, 0, _, c => rfl
  | x :: r, k + 1, h, c => by
    have ih := ltCells_set (l := r) (k := k) (by simpa using h) c
    have e : (k + 1) * 2 + 1 = (k * 2 + 1) + 1 + 1 := by omega
    rw [e]
    simp only [List.set_cons_succ, List.getElem_cons_succ]
    show Value.string x.good :: Value.int .i64 x.cnt :: (ltCells r).set (k * 2 + 1) (.int .i64 c) = _
    rw [ih]
    rfl
theorem ltCells_one (l : List Lt) : ∀ u ∈ ltCells l, u.oneCell' = true := by
  intro u hu
  obtain ⟨x, _, h⟩ := List.mem_flatMap.1 hu
  simp [Lt.row] at h
  rcases h with rfl | rfl <;> rfl
theorem src_lots {w : World} {v : Value} {l : List Lt} (h : Sl w 2 v (l.map Lt.row)) : Src w 2 v l.length (ltCells l) := by
  have := h.src (lt_rows l) (by decide)
  rw [ltCells_flat]
  simpa using this
theorem jIns_eq : ∀ {L : List Lt} {x : Lt} {k : Nat} (hk : k < L.length) (_ : ∀ j (h : j < L.length), j < k → bt L[j].good < bt x.good) (_ : L[k].good = x.good), jIns L x = L.set k ⟨L[k].good, L[k].cnt + x.cnt⟩
  | y :: r, x, 0, _, _, he => by
    have he' : y.good = x.good := he
    have hn : ¬ bt y.good < bt x.good := by rw [he']; exact List.lt_irrefl _
    simp only [jIns, if_neg hn, if_pos he']
    rfl
  | y :: r, x, k + 1, hk, hlt, he => by
    have h0 : bt y.good < bt x.good := hlt 0 (by simp) (by omega)
    have ih := jIns_eq (L := r) (x := x) (k := k) (by simpa using hk) (fun j h hj => hlt (j + 1) (by simpa using h) (by omega)) he
    rw [jIns, if_pos h0, ih]
    rfl
theorem jIns_new : ∀ {L : List Lt} {x : Lt} {k : Nat} (_ : k ≤ L.length) (_ : ∀ j (h : j < L.length), j < k → bt L[j].good < bt x.good) (_ : ∀ h : k < L.length, ¬ bt L[k].good < bt x.good ∧ ¬ L[k].good = x.good), jIns L x = L.take k ++ [x] ++ L.drop k
  | [], x, k, hk, _, _ => by
    obtain rfl : k = 0 := by simpa using hk
    rfl
  | y :: r, x, 0, _, _, he => by
    obtain ⟨h1, h2⟩ := he (by simp)
    have h1' : ¬ bt y.good < bt x.good := h1
    have h2' : ¬ y.good = x.good := h2
    rw [jIns, if_neg h1', if_neg h2']
    rfl
  | y :: r, x, k + 1, hk, hlt, he => by
    have h0 : bt y.good < bt x.good := hlt 0 (by simp) (by omega)
    have ih := jIns_new (L := r) (x := x) (k := k) (by simpa using hk) (fun j h hj => hlt (j + 1) (by simpa using h) (by omega)) (fun h => he (by simpa using h))
    rw [jIns, if_pos h0, ih]
    rfl
theorem own_ins {w : World} {B : Nat} {e : TypeId} {v : Value} {L : List Lt} {xn : ByteArray} {xc : Int} {k : Nat} (hk : k ≤ L.length) (h : w.ownsRow B e 2 v (k + 1 + (L.length - k)) (ltCells (L.take k) ++ [.string xn, .int .i64 xc] ++ ltCells (L.drop k))) :
    w.ownsRow B e 2 v (L.take k ++ [(⟨xn, xc⟩ : Lt)] ++ L.drop k).length (ltCells (L.take k ++ [(⟨xn, xc⟩ : Lt)] ++ L.drop k)) := by
  have e1 : (L.take k ++ [(⟨xn, xc⟩ : Lt)] ++ L.drop k).length = k + 1 + (L.length - k) := by
    simp [Nat.min_eq_left hk]
    omega
  rw [e1, ltCells_append, ltCells_append]
  exact h
theorem joinL_snoc {l : List Lt} {n : Nat} (h : n < l.length) : joinL (l.take (n + 1)) = if l[n].cnt < 1 then joinL (l.take n) else jIns (joinL (l.take n)) l[n] := by
  rw [List.take_succ_eq_append_getElem h, joinL, List.foldl_append]
  rfl
end Go.Proofs.YtgnfdplphpejaaaGreatDoor.Sc
namespace Go.Proofs.YtgnfdplphpejaaaGreatDoor.Sc
open Go Go.RowKit Go.ChangeShapes Go.WideShapes Go.ChangeAt
set_option maxRecDepth 100000

set_option maxHeartbeats 16000000 in
theorem refJoin_any (l : List Lt) (vl : Value) (w : World) (hs : Sl w 2 vl (l.map Lt.row)) (hl : l.length ≤ 4000) (hc : ∀ x ∈ l, x.cnt ≤ 1099511627776) :
    Calls Tryz.prog 19 #[vl] w (RetRow w 38 2 (joinL l).length (ltCells (joinL l))) := by
  obtain ⟨a, c, rfl⟩ : ∃ a c, vl = .slice a l.length c := by simpa using hs.shape
  have HS := Lib.hid hs
  have HLN := Lib.hid hl
  have HC := Lib.hid hc
  obtain ⟨i0, hi, hz, hsz, hby⟩ := info_parts infoLt
  have HI := Lib.hid (And.intro hi (And.intro hz (And.intro hsz hby)))
  clear hi hz hsz hby hs hc
  go_enter Tryz.func19, Tryz.ntmps19
  go_wp2_with fail
  go_loopw [3, 4, 5] (fun o i _ wr => ∃ n : Nat, n ≤ l.length ∧ i = .int .i64 n ∧ wr.ownsRow w.heap.size 38 2 o (joinL (l.take n)).length (ltCells (joinL (l.take n))) ∧ Below w.heap.size w wr) (fun _ i _ _ => l.length - (intOf i).toNat)
  case atStart => exact ⟨0, Nat.zero_le _, rfl, own_empty (Nat.le_refl _), one_below _ _⟩
  case round =>
    obtain ⟨n, hn, rfl, hown, hbel⟩ := hrel
    have HOWN := Lib.hid hown
    have HBEL := Lib.hid hbel
    by_cases hlt : n < l.length
    · obtain ⟨b, off, rfl, -, hb, hc⟩ := HS.out.at (i := n) (by simpa using hlt)
      have hr := hc n l[n].row (by simp [hlt])
      have HX0 : Hid (∀ W, Below w.heap.size w W → W.cell? ⟨b, off + n * 2, none⟩ = some (.string l[n].good) ∧ W.cell? ⟨b, off + n * 2 + 1, none⟩ = some (.int .i64 l[n].cnt)) := Lib.hid fun W hW =>
        ⟨(hW.cell (p := ⟨b, off + n * 2, none⟩) hb).trans (hr 0 _ rfl), (hW.cell (p := ⟨b, off + n * 2 + 1, none⟩) hb).trans (hr 1 _ rfl)⟩
      have HNX := Lib.hid (joinL_snoc hlt)
      have HXB := Lib.hid (HC.out l[n] (List.getElem_mem hlt))
      have HNL := Lib.hid hlt
      have HLL : Hid ((joinL (l.take n)).length ≤ 4000) := Lib.hid (by have h1 := joinL_length (l.take n); rw [List.length_take] at h1; have := HLN.out; omega)
      have HPB : Hid (∀ k (h : k < (joinL (l.take n)).length), 0 < (joinL (l.take n))[k].cnt ∧ (joinL (l.take n))[k].cnt ≤ 1099511627776 * 4000) := Lib.hid fun k h => by
        have hm := List.getElem_mem h
        have h1 := (mem_norm (joinL_norm _)).1 hm
        have h2 := posTot_le (l := l.take n) (fun x hx => HC.out x (List.mem_of_mem_take hx)) (joinL (l.take n))[k].good
        rw [joinL_tot] at h1
        rw [List.length_take] at h2
        have := HLN.out
        exact ⟨h1.1, by omega⟩
      obtain ⟨ao, co, rfl⟩ : ∃ a c, u3 = .slice a (joinL (l.take n)).length c := by simpa using (own_lots HOWN.out rfl).shape
      have tn : ((n : Nat) : Int) < (l.length : Int) := by omega
      have d1 := (HX0.out wr hbel).2
      generalize l[n] = x at *
      generalize joinL (l.take n) = L at *
      obtain ⟨xn, xc⟩ := x
      simp only at d1 HX0 HXB
      clear hb hc hr hown hbel hn
      by_cases hx1 : xc < 1
      · have t1 : decide (xc < 1) = true := decide_eq_true hx1
        rw [if_pos hx1] at HNX
        clear hx1
        go_wp2_with fail
        go_roundw
        case rel => exact ⟨n + 1, by omega, by go_num, by rw [HNX.out]; exact HOWN.out, HBEL.out⟩
        case measure => (simp [intOf]) <;> omega
      · have t1 : decide (xc < 1) = false := decide_eq_false hx1
        rw [if_neg hx1] at HNX
        have hx0 : 0 < xc := by omega
        go_wp2_with fail
        clear d1 t1 hx1
        generalize wr = w5 at *
        have HSO := Lib.hid (own_lots HOWN.out rfl)
        have HX := Lib.hid (fun W (hW : Below w5.heap.size w5 W) => (HX0.out W (HBEL.out.trans (hW.mono HBEL.out.size))).1)
        have HXC := Lib.hid (fun W (hW : Below w5.heap.size w5 W) => (HX0.out W (HBEL.out.trans (hW.mono HBEL.out.size))).2)
        go_loopw [5] (fun i wr => ∃ k : Nat, k ≤ L.length ∧ i = .int .i64 k ∧ (∀ j (h : j < L.length), j < k → bt L[j].good < bt xn) ∧ Below w5.heap.size w5 wr) (fun i _ => L.length - (intOf i).toNat)
        case atStart => exact ⟨0, Nat.zero_le _, rfl, fun _ _ h => absurd h (by omega), Below.refl _ _⟩
        case round =>
          obtain ⟨k, hk, rfl, hlo, hin⟩ := hrel
          have HLO := Lib.hid hlo
          have HBL := Lib.hid hin
          have HKL := Lib.hid hk
          clear hlo hin
          by_cases hlk : k < L.length
          · have tk : ((k : Nat) : Int) < (L.length : Int) := by omega
            have hkb : (k : Int) ≤ 4000 := by have := HLL.out; omega
            have HKL := Lib.hid hlk
            obtain ⟨g, co', cur, hv3, hh, hg⟩ := own_pos HOWN.out (by omega)
            obtain ⟨rfl, rfl⟩ : ao = some ⟨g, 0, none⟩ ∧ co = co' := by
              simp only [Value.slice.injEq] at hv3
              exact ⟨hv3.1, hv3.2.2⟩
            have HYC : Hid (∀ W, Below w5.heap.size w5 W → W.cell? ⟨g, k * 2, none⟩ = some (.string L[k].good) ∧ W.cell? ⟨g, k * 2 + 1, none⟩ = some (.int .i64 L[k].cnt) ∧ W.frozen? ⟨g, k * 2 + 1, none⟩ = false) := Lib.hid fun W hW => by
              obtain ⟨b1, o1, he, -, -, hc⟩ := (HSO.out.below hW (Nat.le_refl _)).at (i := k) (by simpa using hlk)
              simp only [Option.some.injEq, Addr.mk.injEq, and_true] at he
              obtain ⟨rfl, rfl⟩ := he
              have c0 := hc k L[k].row (by rw [List.getElem?_map, List.getElem?_eq_getElem hlk]; rfl) 0 _ rfl
              have c1 := hc k L[k].row (by rw [List.getElem?_map, List.getElem?_eq_getElem hlk]; rfl) 1 _ rfl
              rw [Nat.zero_add] at c0 c1
              exact ⟨c0, c1, free_blk ((hW.block g (lt_blk hh)).trans hh) _⟩
            have HY := Lib.hid (fun W (hW : Below w5.heap.size w5 W) => (HYC.out W hW).1)
            have HGB := Lib.hid hg
            have HCB := HPB.out k hlk
            have HJE := Lib.hid (fun (h : L[k].good = xn) => jIns_eq (x := ⟨xn, xc⟩) hlk HLO.out h)
            have HMO := Lib.hid (fun (hs : bt L[k].good < bt xn) j (h : j < L.length) (hj : j < k + 1) => (by
              rcases Nat.lt_or_ge j k with h1 | h1
              · exact HLO.out j h h1
              · obtain rfl : j = k := by omega
                exact hs : bt L[j].good < bt xn))
            have HJI := Lib.hid (fun (h1 : ¬ bt L[k].good < bt xn) (h2 : ¬ L[k].good = xn) => jIns_new (x := ⟨xn, xc⟩) hk HLO.out fun _ => ⟨h1, h2⟩)
            have HSET := Lib.hid (fun c => ltCells_set hlk c)
            clear hv3 hh hg
            generalize L[k].good = yn at *
            generalize L[k].cnt = yc at *
            by_cases hs : bt yn < bt xn
            · have t1 : Op.bytesLess yn.toList xn.toList = true := by rw [less_bt, decide_eq_true hs]
              have HMO := Lib.hid (HMO.out hs)
              clear hs HJE HJI HSET HYC hk hlk
              go_wp2_with fail
              refine Any.region_lit (fun
                | 0 => Any.val (.int .i64 (k : Int))
                | 1 => Any.val (.slice (some ⟨g, 0, none⟩) L.length co)
                | 2 => Any.val (.int .i64 (L.length : Int))
                | 3 => Any.val (.bool true)
                | 4 => Any.val (.bool true)
                | 5 => Any.val (.slice (some ⟨g, 0, none⟩) L.length co)
                | 6 => Any.val (.int .i64 (k : Int))
                | 7 => Any.val (.pointer (some ⟨g, k * 2, none⟩))
                | 8 => Any.val (.pointer (some ⟨g, k * 2, none⟩))
                | 9 => Any.val (.string yn)
                | 10 => Any.val (.slice (some ⟨b, off, none⟩) l.length c)
                | 11 => Any.val (.int .i64 (n : Int))
                | 12 => Any.val (.pointer (some ⟨b, off + n * 2, none⟩))
                | 13 => Any.val (.pointer (some ⟨b, off + n * 2, none⟩))
                | 14 => Any.val (.string xn)
                | 15 => Any.val (.bool true)
                | 16 => Any.val (.bool true)
                | _ => Any.idle) (by kernel_rfl) (by kernel_rfl) (by kernel_rfl) ?_ ?_ ?_
              · intro i _
                match i with
                | 0 => exact Any.lasts_val _
                | 1 => exact Any.lasts_val _
                | 2 => exact Any.lasts_val _
                | 3 => exact Any.lasts_val _
                | 4 => exact Any.lasts_val _
                | 5 => exact Any.lasts_val _
                | 6 => exact Any.lasts_val _
                | 7 => exact Any.lasts_val _
                | 8 => exact Any.lasts_val _
                | 9 => exact Any.lasts_val _
                | 10 => exact Any.lasts_val _
                | 11 => exact Any.lasts_val _
                | 12 => exact Any.lasts_val _
                | 13 => exact Any.lasts_val _
                | 14 => exact Any.lasts_val _
                | 15 => exact Any.lasts_val _
                | 16 => exact Any.lasts_val _
                | n + 17 => exact Any.lasts_idle
              · refine ⟨?_, ?_, ?_, ?_, ?_, ?_, ?_, ?_, ?_, ?_, ?_, ?_, ?_, ?_, ?_, ?_, ?_, trivial⟩
                · refine Any.owes_plain rfl fun ρ wo hs' hb hc' => ?_
                  have h5 : ρ (.tmp 5) = .int .i64 (k : Int) := hs'.old' 5 (by kernel_rfl)
                  exact Any.ok_move (Any.post_val hb rfl h5)
                · refine Any.owes_plain rfl fun ρ wo hs' hb hc' => ?_
                  have h3 : ρ (.tmp 3) = .slice (some ⟨g, 0, none⟩) L.length co := hs'.old' 3 (by kernel_rfl)
                  exact Any.ok_move (Any.post_val hb rfl h3)
                · refine Any.owes_plain rfl fun ρ wo hs' hb hc' => ?_
                  have h20 : ρ (.tmp 20) = .slice (some ⟨g, 0, none⟩) L.length co := hs'.new' 20 1 (by kernel_rfl)
                  go_simp
                  exact Any.post_val hb rfl rfl
                · refine Any.owes_plain rfl fun ρ wo hs' hb hc' => ?_
                  have h19 : ρ (.tmp 19) = .int .i64 (k : Int) := hs'.new' 19 0 (by kernel_rfl)
                  have h21 : ρ (.tmp 21) = .int .i64 (L.length : Int) := hs'.new' 21 2 (by kernel_rfl)
                  go_simp
                  exact Any.post_val hb rfl rfl
                · refine Any.owes_plain rfl fun ρ wo hs' hb hc' => ?_
                  have h22 : ρ (.tmp 22) = .bool true := hs'.new' 22 3 (by kernel_rfl)
                  exact Any.ok_move (Any.post_val hb rfl h22)
                · refine Any.owes_on rfl rfl (by kernel_rfl) rfl fun ρ wo hs' hb hc' => ?_
                  have h3 : ρ (.tmp 3) = .slice (some ⟨g, 0, none⟩) L.length co := hs'.old' 3 (by kernel_rfl)
                  exact Any.ok_move (Any.post_val hb rfl h3)
                · refine Any.owes_on rfl rfl (by kernel_rfl) rfl fun ρ wo hs' hb hc' => ?_
                  have h5 : ρ (.tmp 5) = .int .i64 (k : Int) := hs'.old' 5 (by kernel_rfl)
                  exact Any.ok_move (Any.post_val hb rfl h5)
                · refine Any.owes_on rfl rfl (by kernel_rfl) rfl fun ρ wo hs' hb hc' => ?_
                  have h24 : ρ (.tmp 24) = .slice (some ⟨g, 0, none⟩) L.length co := hs'.new' 24 5 (by kernel_rfl)
                  have h25 : ρ (.tmp 25) = .int .i64 (k : Int) := hs'.new' 25 6 (by kernel_rfl)
                  go_simp
                  exact Any.post_val hb rfl rfl
                · refine Any.owes_on rfl rfl (by kernel_rfl) rfl fun ρ wo hs' hb hc' => ?_
                  have h26 : ρ (.tmp 26) = .pointer (some ⟨g, k * 2, none⟩) := hs'.new' 26 7 (by kernel_rfl)
                  go_simp
                  exact Any.post_val hb rfl rfl
                · refine Any.owes_on rfl rfl (by kernel_rfl) rfl fun ρ wo hs' hb hc' => ?_
                  have h27 : ρ (.tmp 27) = .pointer (some ⟨g, k * 2, none⟩) := hs'.new' 27 8 (by kernel_rfl)
                  have c0 := HY.out wo (HBL.out.trans ((below_undrew hb).mono HBL.out.size))
                  go_simp
                  exact Any.post_val hb rfl rfl
                · refine Any.owes_on rfl rfl (by kernel_rfl) rfl fun ρ wo hs' hb hc' => ?_
                  have h0 : ρ (.tmp 0) = .slice (some ⟨b, off, none⟩) l.length c := hs'.old' 0 (by kernel_rfl)
                  exact Any.ok_move (Any.post_val hb rfl h0)
                · refine Any.owes_on rfl rfl (by kernel_rfl) rfl fun ρ wo hs' hb hc' => ?_
                  have h4 : ρ (.tmp 4) = .int .i64 (n : Int) := hs'.old' 4 (by kernel_rfl)
                  exact Any.ok_move (Any.post_val hb rfl h4)
                · refine Any.owes_on rfl rfl (by kernel_rfl) rfl fun ρ wo hs' hb hc' => ?_
                  have h29 : ρ (.tmp 29) = .slice (some ⟨b, off, none⟩) l.length c := hs'.new' 29 10 (by kernel_rfl)
                  have h30 : ρ (.tmp 30) = .int .i64 (n : Int) := hs'.new' 30 11 (by kernel_rfl)
                  go_simp
                  exact Any.post_val hb rfl rfl
                · refine Any.owes_on rfl rfl (by kernel_rfl) rfl fun ρ wo hs' hb hc' => ?_
                  have h31 : ρ (.tmp 31) = .pointer (some ⟨b, off + n * 2, none⟩) := hs'.new' 31 12 (by kernel_rfl)
                  go_simp
                  exact Any.post_val hb rfl rfl
                · refine Any.owes_on rfl rfl (by kernel_rfl) rfl fun ρ wo hs' hb hc' => ?_
                  have h32 : ρ (.tmp 32) = .pointer (some ⟨b, off + n * 2, none⟩) := hs'.new' 32 13 (by kernel_rfl)
                  have c0 := HX.out wo (HBL.out.trans ((below_undrew hb).mono HBL.out.size))
                  go_simp
                  exact Any.post_val hb rfl rfl
                · refine Any.owes_on rfl rfl (by kernel_rfl) rfl fun ρ wo hs' hb hc' => ?_
                  have h28 : ρ (.tmp 28) = .string yn := hs'.new' 28 9 (by kernel_rfl)
                  have h33 : ρ (.tmp 33) = .string xn := hs'.new' 33 14 (by kernel_rfl)
                  go_simp
                  exact Any.post_val hb rfl rfl
                · refine Any.owes_plain rfl fun ρ wo hs' hb hc' => ?_
                  have h23 : ρ (.tmp 23) = .bool true := hs'.new' 23 4 (by kernel_rfl)
                  have h34 : ρ (.tmp 34) = .bool true := hs'.new' 34 15 (by kernel_rfl)
                  go_simp
                  exact Any.post_val hb rfl rfl
              · intro vals w7 hb hk ha
                have h16 : vals 16 = .bool true := hk 16 (by kernel_rfl)
                have HBL := Lib.hid (HBL.out.trans (hb.mono HBL.out.size))
                clear hk ha hb
                simp only [Any.putAll]
                go_frame
                simp only [Nat.zero_add, Nat.reduceAdd]
                rw [h16]
                clear h16
                go_wp2_with fail
                go_roundw
                case rel => exact ⟨k + 1, by have := HKL.out; omega, by go_num, HMO.out, HBL.out⟩
                case measure => have := HKL.out; (simp [intOf]) <;> omega
            have t1 : Op.bytesLess yn.toList xn.toList = false := by rw [less_bt, decide_eq_false hs]
            have HJI := Lib.hid (HJI.out hs)
            clear hs HMO hk hlk
            go_wp2_with fail
            refine Any.region_lit (fun
              | 0 => Any.val (.int .i64 (k : Int))
              | 1 => Any.val (.slice (some ⟨g, 0, none⟩) L.length co)
              | 2 => Any.val (.int .i64 (L.length : Int))
              | 3 => Any.val (.bool true)
              | 4 => Any.val (.bool true)
              | 5 => Any.val (.slice (some ⟨g, 0, none⟩) L.length co)
              | 6 => Any.val (.int .i64 (k : Int))
              | 7 => Any.val (.pointer (some ⟨g, k * 2, none⟩))
              | 8 => Any.val (.pointer (some ⟨g, k * 2, none⟩))
              | 9 => Any.val (.string yn)
              | 10 => Any.val (.slice (some ⟨b, off, none⟩) l.length c)
              | 11 => Any.val (.int .i64 (n : Int))
              | 12 => Any.val (.pointer (some ⟨b, off + n * 2, none⟩))
              | 13 => Any.val (.pointer (some ⟨b, off + n * 2, none⟩))
              | 14 => Any.val (.string xn)
              | 15 => Any.val (.bool false)
              | 16 => Any.val (.bool false)
              | _ => Any.idle) (by kernel_rfl) (by kernel_rfl) (by kernel_rfl) ?_ ?_ ?_
            · intro i _
              match i with
              | 0 => exact Any.lasts_val _
              | 1 => exact Any.lasts_val _
              | 2 => exact Any.lasts_val _
              | 3 => exact Any.lasts_val _
              | 4 => exact Any.lasts_val _
              | 5 => exact Any.lasts_val _
              | 6 => exact Any.lasts_val _
              | 7 => exact Any.lasts_val _
              | 8 => exact Any.lasts_val _
              | 9 => exact Any.lasts_val _
              | 10 => exact Any.lasts_val _
              | 11 => exact Any.lasts_val _
              | 12 => exact Any.lasts_val _
              | 13 => exact Any.lasts_val _
              | 14 => exact Any.lasts_val _
              | 15 => exact Any.lasts_val _
              | 16 => exact Any.lasts_val _
              | n + 17 => exact Any.lasts_idle
            · refine ⟨?_, ?_, ?_, ?_, ?_, ?_, ?_, ?_, ?_, ?_, ?_, ?_, ?_, ?_, ?_, ?_, ?_, trivial⟩
              · refine Any.owes_plain rfl fun ρ wo hs' hb hc' => ?_
                have h5 : ρ (.tmp 5) = .int .i64 (k : Int) := hs'.old' 5 (by kernel_rfl)
                exact Any.ok_move (Any.post_val hb rfl h5)
              · refine Any.owes_plain rfl fun ρ wo hs' hb hc' => ?_
                have h3 : ρ (.tmp 3) = .slice (some ⟨g, 0, none⟩) L.length co := hs'.old' 3 (by kernel_rfl)
                exact Any.ok_move (Any.post_val hb rfl h3)
              · refine Any.owes_plain rfl fun ρ wo hs' hb hc' => ?_
                have h20 : ρ (.tmp 20) = .slice (some ⟨g, 0, none⟩) L.length co := hs'.new' 20 1 (by kernel_rfl)
                go_simp
                exact Any.post_val hb rfl rfl
              · refine Any.owes_plain rfl fun ρ wo hs' hb hc' => ?_
                have h19 : ρ (.tmp 19) = .int .i64 (k : Int) := hs'.new' 19 0 (by kernel_rfl)
                have h21 : ρ (.tmp 21) = .int .i64 (L.length : Int) := hs'.new' 21 2 (by kernel_rfl)
                go_simp
                exact Any.post_val hb rfl rfl
              · refine Any.owes_plain rfl fun ρ wo hs' hb hc' => ?_
                have h22 : ρ (.tmp 22) = .bool true := hs'.new' 22 3 (by kernel_rfl)
                exact Any.ok_move (Any.post_val hb rfl h22)
              · refine Any.owes_on rfl rfl (by kernel_rfl) rfl fun ρ wo hs' hb hc' => ?_
                have h3 : ρ (.tmp 3) = .slice (some ⟨g, 0, none⟩) L.length co := hs'.old' 3 (by kernel_rfl)
                exact Any.ok_move (Any.post_val hb rfl h3)
              · refine Any.owes_on rfl rfl (by kernel_rfl) rfl fun ρ wo hs' hb hc' => ?_
                have h5 : ρ (.tmp 5) = .int .i64 (k : Int) := hs'.old' 5 (by kernel_rfl)
                exact Any.ok_move (Any.post_val hb rfl h5)
              · refine Any.owes_on rfl rfl (by kernel_rfl) rfl fun ρ wo hs' hb hc' => ?_
                have h24 : ρ (.tmp 24) = .slice (some ⟨g, 0, none⟩) L.length co := hs'.new' 24 5 (by kernel_rfl)
                have h25 : ρ (.tmp 25) = .int .i64 (k : Int) := hs'.new' 25 6 (by kernel_rfl)
                go_simp
                exact Any.post_val hb rfl rfl
              · refine Any.owes_on rfl rfl (by kernel_rfl) rfl fun ρ wo hs' hb hc' => ?_
                have h26 : ρ (.tmp 26) = .pointer (some ⟨g, k * 2, none⟩) := hs'.new' 26 7 (by kernel_rfl)
                go_simp
                exact Any.post_val hb rfl rfl
              · refine Any.owes_on rfl rfl (by kernel_rfl) rfl fun ρ wo hs' hb hc' => ?_
                have h27 : ρ (.tmp 27) = .pointer (some ⟨g, k * 2, none⟩) := hs'.new' 27 8 (by kernel_rfl)
                have c0 := HY.out wo (HBL.out.trans ((below_undrew hb).mono HBL.out.size))
                go_simp
                exact Any.post_val hb rfl rfl
              · refine Any.owes_on rfl rfl (by kernel_rfl) rfl fun ρ wo hs' hb hc' => ?_
                have h0 : ρ (.tmp 0) = .slice (some ⟨b, off, none⟩) l.length c := hs'.old' 0 (by kernel_rfl)
                exact Any.ok_move (Any.post_val hb rfl h0)
              · refine Any.owes_on rfl rfl (by kernel_rfl) rfl fun ρ wo hs' hb hc' => ?_
                have h4 : ρ (.tmp 4) = .int .i64 (n : Int) := hs'.old' 4 (by kernel_rfl)
                exact Any.ok_move (Any.post_val hb rfl h4)
              · refine Any.owes_on rfl rfl (by kernel_rfl) rfl fun ρ wo hs' hb hc' => ?_
                have h29 : ρ (.tmp 29) = .slice (some ⟨b, off, none⟩) l.length c := hs'.new' 29 10 (by kernel_rfl)
                have h30 : ρ (.tmp 30) = .int .i64 (n : Int) := hs'.new' 30 11 (by kernel_rfl)
                go_simp
                exact Any.post_val hb rfl rfl
              · refine Any.owes_on rfl rfl (by kernel_rfl) rfl fun ρ wo hs' hb hc' => ?_
                have h31 : ρ (.tmp 31) = .pointer (some ⟨b, off + n * 2, none⟩) := hs'.new' 31 12 (by kernel_rfl)
                go_simp
                exact Any.post_val hb rfl rfl
              · refine Any.owes_on rfl rfl (by kernel_rfl) rfl fun ρ wo hs' hb hc' => ?_
                have h32 : ρ (.tmp 32) = .pointer (some ⟨b, off + n * 2, none⟩) := hs'.new' 32 13 (by kernel_rfl)
                have c0 := HX.out wo (HBL.out.trans ((below_undrew hb).mono HBL.out.size))
                go_simp
                exact Any.post_val hb rfl rfl
              · refine Any.owes_on rfl rfl (by kernel_rfl) rfl fun ρ wo hs' hb hc' => ?_
                have h28 : ρ (.tmp 28) = .string yn := hs'.new' 28 9 (by kernel_rfl)
                have h33 : ρ (.tmp 33) = .string xn := hs'.new' 33 14 (by kernel_rfl)
                go_simp
                exact Any.post_val hb rfl rfl
              · refine Any.owes_plain rfl fun ρ wo hs' hb hc' => ?_
                have h23 : ρ (.tmp 23) = .bool true := hs'.new' 23 4 (by kernel_rfl)
                have h34 : ρ (.tmp 34) = .bool false := hs'.new' 34 15 (by kernel_rfl)
                go_simp
                exact Any.post_val hb rfl rfl
            intro vals w7 hb hk ha
            have h16 : vals 16 = .bool false := hk 16 (by kernel_rfl)
            have HBL := Lib.hid (HBL.out.trans (hb.mono HBL.out.size))
            clear hk ha hb
            simp only [Any.putAll]
            go_frame
            simp only [Nat.zero_add, Nat.reduceAdd]
            rw [h16]
            clear h16
            go_wp2_with fail
            by_cases he : yn = xn
            · have t2 : (yn.toList == xn.toList) = true := by rw [str_beq, decide_eq_true he]
              have HJE := Lib.hid (HJE.out he)
              clear he HJI
              refine Any.region_lit (fun
                | 0 => Any.val (.int .i64 (k : Int))
                | 1 => Any.val (.slice (some ⟨g, 0, none⟩) L.length co)
                | 2 => Any.val (.int .i64 (L.length : Int))
                | 3 => Any.val (.bool true)
                | 4 => Any.val (.bool true)
                | 5 => Any.val (.slice (some ⟨g, 0, none⟩) L.length co)
                | 6 => Any.val (.int .i64 (k : Int))
                | 7 => Any.val (.pointer (some ⟨g, k * 2, none⟩))
                | 8 => Any.val (.pointer (some ⟨g, k * 2, none⟩))
                | 9 => Any.val (.string yn)
                | 10 => Any.val (.slice (some ⟨b, off, none⟩) l.length c)
                | 11 => Any.val (.int .i64 (n : Int))
                | 12 => Any.val (.pointer (some ⟨b, off + n * 2, none⟩))
                | 13 => Any.val (.pointer (some ⟨b, off + n * 2, none⟩))
                | 14 => Any.val (.string xn)
                | 15 => Any.val (.bool true)
                | 16 => Any.val (.bool true)
                | _ => Any.idle) (by kernel_rfl) (by kernel_rfl) (by kernel_rfl) ?_ ?_ ?_
              · intro i _
                match i with
                | 0 => exact Any.lasts_val _
                | 1 => exact Any.lasts_val _
                | 2 => exact Any.lasts_val _
                | 3 => exact Any.lasts_val _
                | 4 => exact Any.lasts_val _
                | 5 => exact Any.lasts_val _
                | 6 => exact Any.lasts_val _
                | 7 => exact Any.lasts_val _
                | 8 => exact Any.lasts_val _
                | 9 => exact Any.lasts_val _
                | 10 => exact Any.lasts_val _
                | 11 => exact Any.lasts_val _
                | 12 => exact Any.lasts_val _
                | 13 => exact Any.lasts_val _
                | 14 => exact Any.lasts_val _
                | 15 => exact Any.lasts_val _
                | 16 => exact Any.lasts_val _
                | n + 17 => exact Any.lasts_idle
              · refine ⟨?_, ?_, ?_, ?_, ?_, ?_, ?_, ?_, ?_, ?_, ?_, ?_, ?_, ?_, ?_, ?_, ?_, trivial⟩
                · refine Any.owes_plain rfl fun ρ wo hs' hb hc' => ?_
                  have h5 : ρ (.tmp 5) = .int .i64 (k : Int) := hs'.old' 5 (by kernel_rfl)
                  exact Any.ok_move (Any.post_val hb rfl h5)
                · refine Any.owes_plain rfl fun ρ wo hs' hb hc' => ?_
                  have h3 : ρ (.tmp 3) = .slice (some ⟨g, 0, none⟩) L.length co := hs'.old' 3 (by kernel_rfl)
                  exact Any.ok_move (Any.post_val hb rfl h3)
                · refine Any.owes_plain rfl fun ρ wo hs' hb hc' => ?_
                  have h39 : ρ (.tmp 39) = .slice (some ⟨g, 0, none⟩) L.length co := hs'.new' 39 1 (by kernel_rfl)
                  go_simp
                  exact Any.post_val hb rfl rfl
                · refine Any.owes_plain rfl fun ρ wo hs' hb hc' => ?_
                  have h38 : ρ (.tmp 38) = .int .i64 (k : Int) := hs'.new' 38 0 (by kernel_rfl)
                  have h40 : ρ (.tmp 40) = .int .i64 (L.length : Int) := hs'.new' 40 2 (by kernel_rfl)
                  go_simp
                  exact Any.post_val hb rfl rfl
                · refine Any.owes_plain rfl fun ρ wo hs' hb hc' => ?_
                  have h41 : ρ (.tmp 41) = .bool true := hs'.new' 41 3 (by kernel_rfl)
                  exact Any.ok_move (Any.post_val hb rfl h41)
                · refine Any.owes_on rfl rfl (by kernel_rfl) rfl fun ρ wo hs' hb hc' => ?_
                  have h3 : ρ (.tmp 3) = .slice (some ⟨g, 0, none⟩) L.length co := hs'.old' 3 (by kernel_rfl)
                  exact Any.ok_move (Any.post_val hb rfl h3)
                · refine Any.owes_on rfl rfl (by kernel_rfl) rfl fun ρ wo hs' hb hc' => ?_
                  have h5 : ρ (.tmp 5) = .int .i64 (k : Int) := hs'.old' 5 (by kernel_rfl)
                  exact Any.ok_move (Any.post_val hb rfl h5)
                · refine Any.owes_on rfl rfl (by kernel_rfl) rfl fun ρ wo hs' hb hc' => ?_
                  have h43 : ρ (.tmp 43) = .slice (some ⟨g, 0, none⟩) L.length co := hs'.new' 43 5 (by kernel_rfl)
                  have h44 : ρ (.tmp 44) = .int .i64 (k : Int) := hs'.new' 44 6 (by kernel_rfl)
                  go_simp
                  exact Any.post_val hb rfl rfl
                · refine Any.owes_on rfl rfl (by kernel_rfl) rfl fun ρ wo hs' hb hc' => ?_
                  have h45 : ρ (.tmp 45) = .pointer (some ⟨g, k * 2, none⟩) := hs'.new' 45 7 (by kernel_rfl)
                  go_simp
                  exact Any.post_val hb rfl rfl
                · refine Any.owes_on rfl rfl (by kernel_rfl) rfl fun ρ wo hs' hb hc' => ?_
                  have h46 : ρ (.tmp 46) = .pointer (some ⟨g, k * 2, none⟩) := hs'.new' 46 8 (by kernel_rfl)
                  have c0 := HY.out wo (HBL.out.trans ((below_undrew hb).mono HBL.out.size))
                  go_simp
                  exact Any.post_val hb rfl rfl
                · refine Any.owes_on rfl rfl (by kernel_rfl) rfl fun ρ wo hs' hb hc' => ?_
                  have h0 : ρ (.tmp 0) = .slice (some ⟨b, off, none⟩) l.length c := hs'.old' 0 (by kernel_rfl)
                  exact Any.ok_move (Any.post_val hb rfl h0)
                · refine Any.owes_on rfl rfl (by kernel_rfl) rfl fun ρ wo hs' hb hc' => ?_
                  have h4 : ρ (.tmp 4) = .int .i64 (n : Int) := hs'.old' 4 (by kernel_rfl)
                  exact Any.ok_move (Any.post_val hb rfl h4)
                · refine Any.owes_on rfl rfl (by kernel_rfl) rfl fun ρ wo hs' hb hc' => ?_
                  have h48 : ρ (.tmp 48) = .slice (some ⟨b, off, none⟩) l.length c := hs'.new' 48 10 (by kernel_rfl)
                  have h49 : ρ (.tmp 49) = .int .i64 (n : Int) := hs'.new' 49 11 (by kernel_rfl)
                  go_simp
                  exact Any.post_val hb rfl rfl
                · refine Any.owes_on rfl rfl (by kernel_rfl) rfl fun ρ wo hs' hb hc' => ?_
                  have h50 : ρ (.tmp 50) = .pointer (some ⟨b, off + n * 2, none⟩) := hs'.new' 50 12 (by kernel_rfl)
                  go_simp
                  exact Any.post_val hb rfl rfl
                · refine Any.owes_on rfl rfl (by kernel_rfl) rfl fun ρ wo hs' hb hc' => ?_
                  have h51 : ρ (.tmp 51) = .pointer (some ⟨b, off + n * 2, none⟩) := hs'.new' 51 13 (by kernel_rfl)
                  have c0 := HX.out wo (HBL.out.trans ((below_undrew hb).mono HBL.out.size))
                  go_simp
                  exact Any.post_val hb rfl rfl
                · refine Any.owes_on rfl rfl (by kernel_rfl) rfl fun ρ wo hs' hb hc' => ?_
                  have h47 : ρ (.tmp 47) = .string yn := hs'.new' 47 9 (by kernel_rfl)
                  have h52 : ρ (.tmp 52) = .string xn := hs'.new' 52 14 (by kernel_rfl)
                  go_simp
                  exact Any.post_val hb rfl rfl
                · refine Any.owes_plain rfl fun ρ wo hs' hb hc' => ?_
                  have h42 : ρ (.tmp 42) = .bool true := hs'.new' 42 4 (by kernel_rfl)
                  have h53 : ρ (.tmp 53) = .bool true := hs'.new' 53 15 (by kernel_rfl)
                  go_simp
                  exact Any.post_val hb rfl rfl
              intro vals w8 hb hk ha
              have h16 : vals 16 = .bool true := hk 16 (by kernel_rfl)
              have HBL := Lib.hid (HBL.out.trans (hb.mono HBL.out.size))
              clear hk ha hb
              simp only [Any.putAll]
              go_frame
              simp only [Nat.zero_add, Nat.reduceAdd]
              rw [h16]
              clear h16
              go_wp2_with fail
              have y1 := (HYC.out w8 HBL.out).2.1
              have d1 := HXC.out w8 HBL.out
              have hxb := HXB.out
              have HBD := Lib.hid (HBL.out.trans ((Below.refl w8.heap.size w8).drew.mono HBL.out.size))
              go_still_tail 15, (by kernel_rfl)
              change wpList _ _ _ _ _ w8.drew
              have z1 := (HYC.out w8.drew HBD.out).2.1
              have f1 := (HYC.out w8.drew HBD.out).2.2
              have HOD := Lib.hid (ownsRow_below HOWN.out HBD.out)
              clear y1 d1
              generalize w8.drew = wd at *
              go_wp2_with fail
              go_roundw
              case rel => exact ⟨n + 1, by have := HNL.out; omega, by go_num, by
                rw [HNX.out, HJE.out]
                have := own_cell HOD.out (k * 2 + 1) (.int .i64 (yc + xc))
                rw [HSET.out] at this
                simpa using this, (HBEL.out.trans (HBD.out.mono HBEL.out.size)).setCell HGB.out _⟩
              case measure => have := HNL.out; (simp [intOf]) <;> omega
            · have t2 : (yn.toList == xn.toList) = false := by rw [str_beq, decide_eq_false he]
              have HJI := Lib.hid (HJI.out he)
              have HKL := Lib.hid (Nat.le_of_lt HKL.out)
              clear he HJE HSET HYC
              refine Any.region_lit (fun
                | 0 => Any.val (.int .i64 (k : Int))
                | 1 => Any.val (.slice (some ⟨g, 0, none⟩) L.length co)
                | 2 => Any.val (.int .i64 (L.length : Int))
                | 3 => Any.val (.bool true)
                | 4 => Any.val (.bool true)
                | 5 => Any.val (.slice (some ⟨g, 0, none⟩) L.length co)
                | 6 => Any.val (.int .i64 (k : Int))
                | 7 => Any.val (.pointer (some ⟨g, k * 2, none⟩))
                | 8 => Any.val (.pointer (some ⟨g, k * 2, none⟩))
                | 9 => Any.val (.string yn)
                | 10 => Any.val (.slice (some ⟨b, off, none⟩) l.length c)
                | 11 => Any.val (.int .i64 (n : Int))
                | 12 => Any.val (.pointer (some ⟨b, off + n * 2, none⟩))
                | 13 => Any.val (.pointer (some ⟨b, off + n * 2, none⟩))
                | 14 => Any.val (.string xn)
                | 15 => Any.val (.bool false)
                | 16 => Any.val (.bool false)
                | _ => Any.idle) (by kernel_rfl) (by kernel_rfl) (by kernel_rfl) ?_ ?_ ?_
              · intro i _
                match i with
                | 0 => exact Any.lasts_val _
                | 1 => exact Any.lasts_val _
                | 2 => exact Any.lasts_val _
                | 3 => exact Any.lasts_val _
                | 4 => exact Any.lasts_val _
                | 5 => exact Any.lasts_val _
                | 6 => exact Any.lasts_val _
                | 7 => exact Any.lasts_val _
                | 8 => exact Any.lasts_val _
                | 9 => exact Any.lasts_val _
                | 10 => exact Any.lasts_val _
                | 11 => exact Any.lasts_val _
                | 12 => exact Any.lasts_val _
                | 13 => exact Any.lasts_val _
                | 14 => exact Any.lasts_val _
                | 15 => exact Any.lasts_val _
                | 16 => exact Any.lasts_val _
                | n + 17 => exact Any.lasts_idle
              · refine ⟨?_, ?_, ?_, ?_, ?_, ?_, ?_, ?_, ?_, ?_, ?_, ?_, ?_, ?_, ?_, ?_, ?_, trivial⟩
                · refine Any.owes_plain rfl fun ρ wo hs' hb hc' => ?_
                  have h5 : ρ (.tmp 5) = .int .i64 (k : Int) := hs'.old' 5 (by kernel_rfl)
                  exact Any.ok_move (Any.post_val hb rfl h5)
                · refine Any.owes_plain rfl fun ρ wo hs' hb hc' => ?_
                  have h3 : ρ (.tmp 3) = .slice (some ⟨g, 0, none⟩) L.length co := hs'.old' 3 (by kernel_rfl)
                  exact Any.ok_move (Any.post_val hb rfl h3)
                · refine Any.owes_plain rfl fun ρ wo hs' hb hc' => ?_
                  have h39 : ρ (.tmp 39) = .slice (some ⟨g, 0, none⟩) L.length co := hs'.new' 39 1 (by kernel_rfl)
                  go_simp
                  exact Any.post_val hb rfl rfl
                · refine Any.owes_plain rfl fun ρ wo hs' hb hc' => ?_
                  have h38 : ρ (.tmp 38) = .int .i64 (k : Int) := hs'.new' 38 0 (by kernel_rfl)
                  have h40 : ρ (.tmp 40) = .int .i64 (L.length : Int) := hs'.new' 40 2 (by kernel_rfl)
                  go_simp
                  exact Any.post_val hb rfl rfl
                · refine Any.owes_plain rfl fun ρ wo hs' hb hc' => ?_
                  have h41 : ρ (.tmp 41) = .bool true := hs'.new' 41 3 (by kernel_rfl)
                  exact Any.ok_move (Any.post_val hb rfl h41)
                · refine Any.owes_on rfl rfl (by kernel_rfl) rfl fun ρ wo hs' hb hc' => ?_
                  have h3 : ρ (.tmp 3) = .slice (some ⟨g, 0, none⟩) L.length co := hs'.old' 3 (by kernel_rfl)
                  exact Any.ok_move (Any.post_val hb rfl h3)
                · refine Any.owes_on rfl rfl (by kernel_rfl) rfl fun ρ wo hs' hb hc' => ?_
                  have h5 : ρ (.tmp 5) = .int .i64 (k : Int) := hs'.old' 5 (by kernel_rfl)
                  exact Any.ok_move (Any.post_val hb rfl h5)
                · refine Any.owes_on rfl rfl (by kernel_rfl) rfl fun ρ wo hs' hb hc' => ?_
                  have h43 : ρ (.tmp 43) = .slice (some ⟨g, 0, none⟩) L.length co := hs'.new' 43 5 (by kernel_rfl)
                  have h44 : ρ (.tmp 44) = .int .i64 (k : Int) := hs'.new' 44 6 (by kernel_rfl)
                  go_simp
                  exact Any.post_val hb rfl rfl
                · refine Any.owes_on rfl rfl (by kernel_rfl) rfl fun ρ wo hs' hb hc' => ?_
                  have h45 : ρ (.tmp 45) = .pointer (some ⟨g, k * 2, none⟩) := hs'.new' 45 7 (by kernel_rfl)
                  go_simp
                  exact Any.post_val hb rfl rfl
                · refine Any.owes_on rfl rfl (by kernel_rfl) rfl fun ρ wo hs' hb hc' => ?_
                  have h46 : ρ (.tmp 46) = .pointer (some ⟨g, k * 2, none⟩) := hs'.new' 46 8 (by kernel_rfl)
                  have c0 := HY.out wo (HBL.out.trans ((below_undrew hb).mono HBL.out.size))
                  go_simp
                  exact Any.post_val hb rfl rfl
                · refine Any.owes_on rfl rfl (by kernel_rfl) rfl fun ρ wo hs' hb hc' => ?_
                  have h0 : ρ (.tmp 0) = .slice (some ⟨b, off, none⟩) l.length c := hs'.old' 0 (by kernel_rfl)
                  exact Any.ok_move (Any.post_val hb rfl h0)
                · refine Any.owes_on rfl rfl (by kernel_rfl) rfl fun ρ wo hs' hb hc' => ?_
                  have h4 : ρ (.tmp 4) = .int .i64 (n : Int) := hs'.old' 4 (by kernel_rfl)
                  exact Any.ok_move (Any.post_val hb rfl h4)
                · refine Any.owes_on rfl rfl (by kernel_rfl) rfl fun ρ wo hs' hb hc' => ?_
                  have h48 : ρ (.tmp 48) = .slice (some ⟨b, off, none⟩) l.length c := hs'.new' 48 10 (by kernel_rfl)
                  have h49 : ρ (.tmp 49) = .int .i64 (n : Int) := hs'.new' 49 11 (by kernel_rfl)
                  go_simp
                  exact Any.post_val hb rfl rfl
                · refine Any.owes_on rfl rfl (by kernel_rfl) rfl fun ρ wo hs' hb hc' => ?_
                  have h50 : ρ (.tmp 50) = .pointer (some ⟨b, off + n * 2, none⟩) := hs'.new' 50 12 (by kernel_rfl)
                  go_simp
                  exact Any.post_val hb rfl rfl
                · refine Any.owes_on rfl rfl (by kernel_rfl) rfl fun ρ wo hs' hb hc' => ?_
                  have h51 : ρ (.tmp 51) = .pointer (some ⟨b, off + n * 2, none⟩) := hs'.new' 51 13 (by kernel_rfl)
                  have c0 := HX.out wo (HBL.out.trans ((below_undrew hb).mono HBL.out.size))
                  go_simp
                  exact Any.post_val hb rfl rfl
                · refine Any.owes_on rfl rfl (by kernel_rfl) rfl fun ρ wo hs' hb hc' => ?_
                  have h47 : ρ (.tmp 47) = .string yn := hs'.new' 47 9 (by kernel_rfl)
                  have h52 : ρ (.tmp 52) = .string xn := hs'.new' 52 14 (by kernel_rfl)
                  go_simp
                  exact Any.post_val hb rfl rfl
                · refine Any.owes_plain rfl fun ρ wo hs' hb hc' => ?_
                  have h42 : ρ (.tmp 42) = .bool true := hs'.new' 42 4 (by kernel_rfl)
                  have h53 : ρ (.tmp 53) = .bool false := hs'.new' 53 15 (by kernel_rfl)
                  go_simp
                  exact Any.post_val hb rfl rfl
              intro vals w8 hb hk ha
              have h16 : vals 16 = .bool false := hk 16 (by kernel_rfl)
              have HBL := Lib.hid (HBL.out.trans (hb.mono HBL.out.size))
              clear hk ha hb
              simp only [Any.putAll]
              go_frame
              simp only [Nat.zero_add, Nat.reduceAdd]
              rw [h16]
              clear h16
              go_wp2_with fail
              obtain ⟨i0, hi, hz, hsz, hby⟩ := info_parts infoLt
              have hcap := (Sl.take (m := k) HSO.out (by simpa using HKL.out)).1
              have QT : Hid (∀ w, (Instr.slice 23 (.slice (some ⟨g, 0, none⟩) L.length co) none (some (.int .i64 (k : Int))) none).run Tryz.prog w = .ok (.slice (some ⟨g, 0, none⟩) k co) w) := Lib.hid fun w => Any.run_slice_to Tryz.underlying23 hi (some ⟨g, 0, none⟩) _ co k hcap
              have QF : Hid (∀ w, (Instr.slice 23 (.slice (some ⟨g, 0, none⟩) L.length co) (some (.int .i64 (k : Int))) none none).run Tryz.prog w = .ok (cutV (some ⟨g, 0, none⟩) L.length co k 2) w) := Lib.hid fun w => run_slice_from Tryz.underlying23 hi hsz (some ⟨g, 0, none⟩) _ co k HKL.out
              have HSA : Hid (∀ W, Below w5.heap.size w5 W → Src W 2 (.slice (some ⟨g, 0, none⟩) k co) k (ltCells (L.take k))) := Lib.hid fun W hW => by
                have h1 := (Sl.take (m := k) (HSO.out.below hW (Nat.le_refl _)) (by simpa using HKL.out)).2
                rw [← List.map_take] at h1
                have h2 := src_lots h1
                rwa [List.length_take, Nat.min_eq_left HKL.out] at h2
              have HSD : Hid (∀ W, Below w5.heap.size w5 W → Src W 2 (cutV (some ⟨g, 0, none⟩) L.length co k 2) (L.length - k) (ltCells (L.drop k))) := Lib.hid fun W hW => by
                have h1 := Sl.drop (k := k) (HSO.out.below hW (Nat.le_refl _)) (by simpa using HKL.out)
                rw [← List.map_drop] at h1
                have h2 := src_lots h1
                rwa [List.length_drop] at h2
              have HL : Hid (k + 1 ≤ maxLen ∧ (k + 1) * 24 ≤ 140737488355328) := Lib.hid (by have := HKL.out; have := HLL.out; simp only [maxLen]; omega)
              have HL2 : Hid (k + 1 + (L.length - k) ≤ maxLen ∧ (k + 1 + (L.length - k)) * 24 ≤ 140737488355328) := Lib.hid (by have := HKL.out; have := HLL.out; simp only [maxLen]; omega)
              clear hi hz hsz hby hcap
              refine Any.region_lit (fun
                | 0 => Any.row w8.heap.size 38 2 (0) ([]) []
                | 1 => Any.val (.slice (some ⟨g, 0, none⟩) L.length co)
                | 2 => Any.val (.int .i64 (k : Int))
                | 3 => Any.val (.slice (some ⟨g, 0, none⟩) k co)
                | 4 => Any.row w8.heap.size 38 2 (k) (ltCells (L.take k)) [0]
                | 5 => Any.val (.slice (some ⟨b, off, none⟩) l.length c)
                | 6 => Any.val (.int .i64 (n : Int))
                | 7 => Any.val (.pointer (some ⟨b, off + n * 2, none⟩))
                | 8 => Any.val (.agg #[.string xn, .int .i64 xc])
                | 9 => Any.made 38 1 #[.string xn, .int .i64 xc]
                | 10 => Any.row w8.heap.size 38 2 (k + 1) (ltCells (L.take k) ++ [.string xn, .int .i64 xc]) [4]
                | 11 => Any.val (.slice (some ⟨g, 0, none⟩) L.length co)
                | 12 => Any.val (.int .i64 (k : Int))
                | 13 => Any.val (cutV (some ⟨g, 0, none⟩) L.length co k 2)
                | 14 => Any.row w8.heap.size 38 2 (k + 1 + (L.length - k)) (ltCells (L.take k) ++ [.string xn, .int .i64 xc] ++ ltCells (L.drop k)) [10]
                | 15 => Any.row w8.heap.size 38 2 (k + 1 + (L.length - k)) (ltCells (L.take k) ++ [.string xn, .int .i64 xc] ++ ltCells (L.drop k)) [14]
                | _ => Any.idle) (by kernel_rfl) (by kernel_rfl) (by kernel_rfl) ?_ ?_ ?_
              · intro i _
                match i with
                | 0 => exact Any.lasts_row _ _ _ _ _ _
                | 1 => exact Any.lasts_val _
                | 2 => exact Any.lasts_val _
                | 3 => exact Any.lasts_val _
                | 4 => exact Any.lasts_row _ _ _ _ _ _
                | 5 => exact Any.lasts_val _
                | 6 => exact Any.lasts_val _
                | 7 => exact Any.lasts_val _
                | 8 => exact Any.lasts_val _
                | 9 => exact Any.lasts_made _ _ _
                | 10 => exact Any.lasts_row _ _ _ _ _ _
                | 11 => exact Any.lasts_val _
                | 12 => exact Any.lasts_val _
                | 13 => exact Any.lasts_val _
                | 14 => exact Any.lasts_row _ _ _ _ _ _
                | 15 => exact Any.lasts_row _ _ _ _ _ _
                | n + 16 => exact Any.lasts_idle
              · refine ⟨?_, ?_, ?_, ?_, ?_, ?_, ?_, ?_, ?_, ?_, ?_, ?_, ?_, ?_, ?_, ?_, trivial⟩
                · refine Any.owes_plain rfl fun ρ wo hs' hb hc' => ?_
                  go_simp
                  exact Any.post_new hb (own_empty (show w8.heap.size ≤ wo.heap.size from hb.size)) (one_below _ _) (by intro b hb'; obtain rfl : wo.heap.size = b := Option.some.inj hb'; exact Nat.le_refl _)
                · refine Any.owes_plain rfl fun ρ wo hs' hb hc' => ?_
                  have h3 : ρ (.tmp 3) = .slice (some ⟨g, 0, none⟩) L.length co := hs'.old' 3 (by kernel_rfl)
                  exact Any.ok_move (Any.post_val hb rfl h3)
                · refine Any.owes_plain rfl fun ρ wo hs' hb hc' => ?_
                  have h5 : ρ (.tmp 5) = .int .i64 (k : Int) := hs'.old' 5 (by kernel_rfl)
                  exact Any.ok_move (Any.post_val hb rfl h5)
                · refine Any.owes_plain rfl fun ρ wo hs' hb hc' => ?_
                  have h71 : ρ (.tmp 71) = .slice (some ⟨g, 0, none⟩) L.length co := hs'.new' 71 1 (by kernel_rfl)
                  have h72 : ρ (.tmp 72) = .int .i64 (k : Int) := hs'.new' 72 2 (by kernel_rfl)
                  have q1 := QT.out wo
                  go_simp
                  exact Any.post_val hb rfl rfl
                · refine Any.owes_plain rfl fun ρ wo hs' hb hc' => ?_
                  have h73 : ρ (.tmp 73) = .slice (some ⟨g, 0, none⟩) k co := hs'.new' 73 3 (by kernel_rfl)
                  have h8 : wo.ownsRow w8.heap.size 38 2 (ρ (.tmp 70)) 0 [] := hs'.new' 70 0 (by kernel_rfl)
                  have hsrc : Src wo 2 (ρ (.tmp 73)) k (ltCells (L.take k)) := by rw [h73]; exact HSA.out wo (HBL.out.trans ((below_undrew hb).mono HBL.out.size))
                  refine Any.ok_append_own Tryz.underlying23 HI.out.1 HI.out.2.1 HI.out.2.2.1 HI.out.2.2.2 rfl (by decide) h8 hsrc (ltCells_one _) (by have := HL.out.1; omega) (by have := HL.out.2; omega) (show w8.heap.size ≤ wo.heap.size from hb.size) fun v' w' h1 h2 h3 => ?_
                  rw [List.nil_append, Nat.zero_add] at h1
                  exact Any.post_take hb h1 h2 rfl ⟨_, _, _, rfl⟩ rfl rfl (Nat.le_refl _) h3 (fun b hb => (h8.lt b hb).1)
                · refine Any.owes_plain rfl fun ρ wo hs' hb hc' => ?_
                  have h0 : ρ (.tmp 0) = .slice (some ⟨b, off, none⟩) l.length c := hs'.old' 0 (by kernel_rfl)
                  exact Any.ok_move (Any.post_val hb rfl h0)
                · refine Any.owes_plain rfl fun ρ wo hs' hb hc' => ?_
                  have h4 : ρ (.tmp 4) = .int .i64 (n : Int) := hs'.old' 4 (by kernel_rfl)
                  exact Any.ok_move (Any.post_val hb rfl h4)
                · refine Any.owes_plain rfl fun ρ wo hs' hb hc' => ?_
                  have h75 : ρ (.tmp 75) = .slice (some ⟨b, off, none⟩) l.length c := hs'.new' 75 5 (by kernel_rfl)
                  have h76 : ρ (.tmp 76) = .int .i64 (n : Int) := hs'.new' 76 6 (by kernel_rfl)
                  go_simp
                  exact Any.post_val hb rfl rfl
                · refine Any.owes_plain rfl fun ρ wo hs' hb hc' => ?_
                  have h77 : ρ (.tmp 77) = .pointer (some ⟨b, off + n * 2, none⟩) := hs'.new' 77 7 (by kernel_rfl)
                  have c0 := HX.out wo (HBL.out.trans ((below_undrew hb).mono HBL.out.size))
                  have c1 := HXC.out wo (HBL.out.trans ((below_undrew hb).mono HBL.out.size))
                  go_simp
                  exact Any.post_val hb rfl rfl
                · refine Any.owes_plain rfl fun ρ wo hs' hb hc' => ?_
                  have h78 : ρ (.tmp 78) = .agg #[.string xn, .int .i64 xc] := hs'.new' 78 8 (by kernel_rfl)
                  go_simp
                  exact Any.post_new hb ⟨_, rfl, heap_alloc_new _ _⟩ (one_below _ _) (by intro b hb'; obtain rfl : wo.heap.size = b := Option.some.inj hb'; exact Nat.le_refl _)
                · refine Any.owes_plain rfl fun ρ wo hs' hb hc' => ?_
                  have h8 : wo.ownsRow w8.heap.size 38 2 (ρ (.tmp 74)) (k) (ltCells (L.take k)) := hs'.new' 74 4 (by kernel_rfl)
                  obtain ⟨g, hg, hgb⟩ := hs'.new' 79 9 (by kernel_rfl)
                  have hsrc : Src wo 2 (ρ (.tmp 79)) 1 [.string xn, .int .i64 xc] := by rw [hg]; exact src_block hgb rfl
                  refine Any.ok_append_own Tryz.underlying23 HI.out.1 HI.out.2.1 HI.out.2.2.1 HI.out.2.2.2 rfl (by decide) h8 hsrc (lt_one xn xc) HL.out.1 HL.out.2 (show w8.heap.size ≤ wo.heap.size from hb.size) fun v' w' h1 h2 h3 => ?_
                  exact Any.post_take hb h1 h2 rfl ⟨_, _, _, rfl⟩ rfl rfl (Nat.le_refl _) h3 (fun b hb => (h8.lt b hb).1)
                · refine Any.owes_plain rfl fun ρ wo hs' hb hc' => ?_
                  have h3 : ρ (.tmp 3) = .slice (some ⟨g, 0, none⟩) L.length co := hs'.old' 3 (by kernel_rfl)
                  exact Any.ok_move (Any.post_val hb rfl h3)
                · refine Any.owes_plain rfl fun ρ wo hs' hb hc' => ?_
                  have h5 : ρ (.tmp 5) = .int .i64 (k : Int) := hs'.old' 5 (by kernel_rfl)
                  exact Any.ok_move (Any.post_val hb rfl h5)
                · refine Any.owes_plain rfl fun ρ wo hs' hb hc' => ?_
                  have h81 : ρ (.tmp 81) = .slice (some ⟨g, 0, none⟩) L.length co := hs'.new' 81 11 (by kernel_rfl)
                  have h82 : ρ (.tmp 82) = .int .i64 (k : Int) := hs'.new' 82 12 (by kernel_rfl)
                  have q2 := QF.out wo
                  go_simp
                  exact Any.post_val hb rfl rfl
                · refine Any.owes_plain rfl fun ρ wo hs' hb hc' => ?_
                  have h83 : ρ (.tmp 83) = cutV (some ⟨g, 0, none⟩) L.length co k 2 := hs'.new' 83 13 (by kernel_rfl)
                  have h8 : wo.ownsRow w8.heap.size 38 2 (ρ (.tmp 80)) (k + 1) (ltCells (L.take k) ++ [.string xn, .int .i64 xc]) := hs'.new' 80 10 (by kernel_rfl)
                  have hsrc : Src wo 2 (ρ (.tmp 83)) (L.length - k) (ltCells (L.drop k)) := by rw [h83]; exact HSD.out wo (HBL.out.trans ((below_undrew hb).mono HBL.out.size))
                  refine Any.ok_append_own Tryz.underlying23 HI.out.1 HI.out.2.1 HI.out.2.2.1 HI.out.2.2.2 rfl (by decide) h8 hsrc (ltCells_one _) HL2.out.1 HL2.out.2 (show w8.heap.size ≤ wo.heap.size from hb.size) fun v' w' h1 h2 h3 => ?_
                  exact Any.post_take hb h1 h2 rfl ⟨_, _, _, rfl⟩ rfl rfl (Nat.le_refl _) h3 (fun b hb => (h8.lt b hb).1)
                · refine Any.owes_plain rfl fun ρ wo hs' hb hc' => ?_
                  have h8 : wo.ownsRow w8.heap.size 38 2 (ρ (.tmp 84)) (k + 1 + (L.length - k)) (ltCells (L.take k) ++ [.string xn, .int .i64 xc] ++ ltCells (L.drop k)) := hs'.new' 84 14 (by kernel_rfl)
                  exact Any.ok_assign (Any.post_pass hb rfl ⟨_, rfl⟩ rfl rfl h8)
              intro vals w9 hb hk ha
              have o15 : w9.ownsRow w8.heap.size 38 2 (vals 15) (k + 1 + (L.length - k)) (ltCells (L.take k) ++ [.string xn, .int .i64 xc] ++ ltCells (L.drop k)) := hk 15 (by kernel_rfl)
              have HO9 := Lib.hid (ownsRow_base (own_ins HKL.out o15) (Nat.le_trans HBEL.out.size HBL.out.size))
              have HBL := Lib.hid (HBL.out.trans (hb.mono HBL.out.size))
              clear hk ha hb
              simp only [Any.putAll]
              go_frame
              simp only [Nat.zero_add, Nat.reduceAdd]
              generalize vals 15 = v9 at *
              clear o15
              go_wp2_with fail
              go_roundw
              case rel => exact ⟨n + 1, by have := HNL.out; omega, by go_num, by rw [HNX.out, HJI.out]; exact HO9.out, HBEL.out.trans (HBL.out.mono HBEL.out.size)⟩
              case measure => have := HNL.out; (simp [intOf]) <;> omega
          have tk : decide (k < L.length) = false := decide_eq_false hlk
          have HJI := Lib.hid (jIns_new (x := ⟨xn, xc⟩) hk HLO.out fun h => absurd h hlk)
          clear hlk hk
          go_wp2_with fail
          refine Any.region_lit (fun
            | 0 => Any.val (.int .i64 (k : Int))
            | 1 => Any.val (.slice ao L.length co)
            | 2 => Any.val (.int .i64 (L.length : Int))
            | 3 => Any.val (.bool false)
            | 4 => Any.val (.bool false)
            | 5 => Any.idle
            | 6 => Any.idle
            | 7 => Any.idle
            | 8 => Any.idle
            | 9 => Any.idle
            | 10 => Any.idle
            | 11 => Any.idle
            | 12 => Any.idle
            | 13 => Any.idle
            | 14 => Any.idle
            | 15 => Any.idle
            | 16 => Any.val (.bool false)
            | _ => Any.idle) (by kernel_rfl) (by kernel_rfl) (by kernel_rfl) ?_ ?_ ?_
          · intro i _
            match i with
            | 0 => exact Any.lasts_val _
            | 1 => exact Any.lasts_val _
            | 2 => exact Any.lasts_val _
            | 3 => exact Any.lasts_val _
            | 4 => exact Any.lasts_val _
            | 5 => exact Any.lasts_idle
            | 6 => exact Any.lasts_idle
            | 7 => exact Any.lasts_idle
            | 8 => exact Any.lasts_idle
            | 9 => exact Any.lasts_idle
            | 10 => exact Any.lasts_idle
            | 11 => exact Any.lasts_idle
            | 12 => exact Any.lasts_idle
            | 13 => exact Any.lasts_idle
            | 14 => exact Any.lasts_idle
            | 15 => exact Any.lasts_idle
            | 16 => exact Any.lasts_val _
            | n + 17 => exact Any.lasts_idle
          · refine ⟨?_, ?_, ?_, ?_, ?_, ?_, ?_, ?_, ?_, ?_, ?_, ?_, ?_, ?_, ?_, ?_, ?_, trivial⟩
            · refine Any.owes_plain rfl fun ρ wo hs' hb hc' => ?_
              have h5 : ρ (.tmp 5) = .int .i64 (k : Int) := hs'.old' 5 (by kernel_rfl)
              exact Any.ok_move (Any.post_val hb rfl h5)
            · refine Any.owes_plain rfl fun ρ wo hs' hb hc' => ?_
              have h3 : ρ (.tmp 3) = .slice ao L.length co := hs'.old' 3 (by kernel_rfl)
              exact Any.ok_move (Any.post_val hb rfl h3)
            · refine Any.owes_plain rfl fun ρ wo hs' hb hc' => ?_
              have h20 : ρ (.tmp 20) = .slice ao L.length co := hs'.new' 20 1 (by kernel_rfl)
              go_simp
              exact Any.post_val hb rfl rfl
            · refine Any.owes_plain rfl fun ρ wo hs' hb hc' => ?_
              have h19 : ρ (.tmp 19) = .int .i64 (k : Int) := hs'.new' 19 0 (by kernel_rfl)
              have h21 : ρ (.tmp 21) = .int .i64 (L.length : Int) := hs'.new' 21 2 (by kernel_rfl)
              go_simp
              exact Any.post_val hb rfl rfl
            · refine Any.owes_plain rfl fun ρ wo hs' hb hc' => ?_
              have h22 : ρ (.tmp 22) = .bool false := hs'.new' 22 3 (by kernel_rfl)
              exact Any.ok_move (Any.post_val hb rfl h22)
            · exact Any.owes_off rfl rfl (by kernel_rfl) rfl (by decide) rfl
            · exact Any.owes_off rfl rfl (by kernel_rfl) rfl (by decide) rfl
            · exact Any.owes_off rfl rfl (by kernel_rfl) rfl (by decide) rfl
            · exact Any.owes_off rfl rfl (by kernel_rfl) rfl (by decide) rfl
            · exact Any.owes_off rfl rfl (by kernel_rfl) rfl (by decide) rfl
            · exact Any.owes_off rfl rfl (by kernel_rfl) rfl (by decide) rfl
            · exact Any.owes_off rfl rfl (by kernel_rfl) rfl (by decide) rfl
            · exact Any.owes_off rfl rfl (by kernel_rfl) rfl (by decide) rfl
            · exact Any.owes_off rfl rfl (by kernel_rfl) rfl (by decide) rfl
            · exact Any.owes_off rfl rfl (by kernel_rfl) rfl (by decide) rfl
            · exact Any.owes_off rfl rfl (by kernel_rfl) rfl (by decide) rfl
            · refine Any.owes_plain rfl fun ρ wo hs' hb hc' => ?_
              have h23 : ρ (.tmp 23) = .bool false := hs'.new' 23 4 (by kernel_rfl)
              go_simp
              exact Any.post_val hb rfl rfl
          intro vals w7 hb hk ha
          have h16 : vals 16 = .bool false := hk 16 (by kernel_rfl)
          have HBL := Lib.hid (HBL.out.trans (hb.mono HBL.out.size))
          clear hk ha hb
          simp only [Any.putAll]
          go_frame
          simp only [Nat.zero_add, Nat.reduceAdd]
          rw [h16]
          clear h16
          go_wp2_with fail
          refine Any.region_lit (fun
            | 0 => Any.val (.int .i64 (k : Int))
            | 1 => Any.val (.slice ao L.length co)
            | 2 => Any.val (.int .i64 (L.length : Int))
            | 3 => Any.val (.bool false)
            | 4 => Any.val (.bool false)
            | 5 => Any.idle
            | 6 => Any.idle
            | 7 => Any.idle
            | 8 => Any.idle
            | 9 => Any.idle
            | 10 => Any.idle
            | 11 => Any.idle
            | 12 => Any.idle
            | 13 => Any.idle
            | 14 => Any.idle
            | 15 => Any.idle
            | 16 => Any.val (.bool false)
            | _ => Any.idle) (by kernel_rfl) (by kernel_rfl) (by kernel_rfl) ?_ ?_ ?_
          · intro i _
            match i with
            | 0 => exact Any.lasts_val _
            | 1 => exact Any.lasts_val _
            | 2 => exact Any.lasts_val _
            | 3 => exact Any.lasts_val _
            | 4 => exact Any.lasts_val _
            | 5 => exact Any.lasts_idle
            | 6 => exact Any.lasts_idle
            | 7 => exact Any.lasts_idle
            | 8 => exact Any.lasts_idle
            | 9 => exact Any.lasts_idle
            | 10 => exact Any.lasts_idle
            | 11 => exact Any.lasts_idle
            | 12 => exact Any.lasts_idle
            | 13 => exact Any.lasts_idle
            | 14 => exact Any.lasts_idle
            | 15 => exact Any.lasts_idle
            | 16 => exact Any.lasts_val _
            | n + 17 => exact Any.lasts_idle
          · refine ⟨?_, ?_, ?_, ?_, ?_, ?_, ?_, ?_, ?_, ?_, ?_, ?_, ?_, ?_, ?_, ?_, ?_, trivial⟩
            · refine Any.owes_plain rfl fun ρ wo hs' hb hc' => ?_
              have h5 : ρ (.tmp 5) = .int .i64 (k : Int) := hs'.old' 5 (by kernel_rfl)
              exact Any.ok_move (Any.post_val hb rfl h5)
            · refine Any.owes_plain rfl fun ρ wo hs' hb hc' => ?_
              have h3 : ρ (.tmp 3) = .slice ao L.length co := hs'.old' 3 (by kernel_rfl)
              exact Any.ok_move (Any.post_val hb rfl h3)
            · refine Any.owes_plain rfl fun ρ wo hs' hb hc' => ?_
              have h39 : ρ (.tmp 39) = .slice ao L.length co := hs'.new' 39 1 (by kernel_rfl)
              go_simp
              exact Any.post_val hb rfl rfl
            · refine Any.owes_plain rfl fun ρ wo hs' hb hc' => ?_
              have h38 : ρ (.tmp 38) = .int .i64 (k : Int) := hs'.new' 38 0 (by kernel_rfl)
              have h40 : ρ (.tmp 40) = .int .i64 (L.length : Int) := hs'.new' 40 2 (by kernel_rfl)
              go_simp
              exact Any.post_val hb rfl rfl
            · refine Any.owes_plain rfl fun ρ wo hs' hb hc' => ?_
              have h41 : ρ (.tmp 41) = .bool false := hs'.new' 41 3 (by kernel_rfl)
              exact Any.ok_move (Any.post_val hb rfl h41)
            · exact Any.owes_off rfl rfl (by kernel_rfl) rfl (by decide) rfl
            · exact Any.owes_off rfl rfl (by kernel_rfl) rfl (by decide) rfl
            · exact Any.owes_off rfl rfl (by kernel_rfl) rfl (by decide) rfl
            · exact Any.owes_off rfl rfl (by kernel_rfl) rfl (by decide) rfl
            · exact Any.owes_off rfl rfl (by kernel_rfl) rfl (by decide) rfl
            · exact Any.owes_off rfl rfl (by kernel_rfl) rfl (by decide) rfl
            · exact Any.owes_off rfl rfl (by kernel_rfl) rfl (by decide) rfl
            · exact Any.owes_off rfl rfl (by kernel_rfl) rfl (by decide) rfl
            · exact Any.owes_off rfl rfl (by kernel_rfl) rfl (by decide) rfl
            · exact Any.owes_off rfl rfl (by kernel_rfl) rfl (by decide) rfl
            · exact Any.owes_off rfl rfl (by kernel_rfl) rfl (by decide) rfl
            · refine Any.owes_plain rfl fun ρ wo hs' hb hc' => ?_
              have h42 : ρ (.tmp 42) = .bool false := hs'.new' 42 4 (by kernel_rfl)
              go_simp
              exact Any.post_val hb rfl rfl
          intro vals w8 hb hk ha
          have h16 : vals 16 = .bool false := hk 16 (by kernel_rfl)
          have HBL := Lib.hid (HBL.out.trans (hb.mono HBL.out.size))
          clear hk ha hb
          simp only [Any.putAll]
          go_frame
          simp only [Nat.zero_add, Nat.reduceAdd]
          rw [h16]
          clear h16
          go_wp2_with fail
          obtain ⟨i0, hi, hz, hsz, hby⟩ := info_parts infoLt
          have hcap := (Sl.take (m := k) HSO.out (by simpa using HKL.out)).1
          have QT : Hid (∀ w, (Instr.slice 23 (.slice ao L.length co) none (some (.int .i64 (k : Int))) none).run Tryz.prog w = .ok (.slice ao k co) w) := Lib.hid fun w => Any.run_slice_to Tryz.underlying23 hi ao _ co k hcap
          have QF : Hid (∀ w, (Instr.slice 23 (.slice ao L.length co) (some (.int .i64 (k : Int))) none none).run Tryz.prog w = .ok (cutV ao L.length co k 2) w) := Lib.hid fun w => run_slice_from Tryz.underlying23 hi hsz ao _ co k HKL.out
          have HSA : Hid (∀ W, Below w5.heap.size w5 W → Src W 2 (.slice ao k co) k (ltCells (L.take k))) := Lib.hid fun W hW => by
            have h1 := (Sl.take (m := k) (HSO.out.below hW (Nat.le_refl _)) (by simpa using HKL.out)).2
            rw [← List.map_take] at h1
            have h2 := src_lots h1
            rwa [List.length_take, Nat.min_eq_left HKL.out] at h2
          have HSD : Hid (∀ W, Below w5.heap.size w5 W → Src W 2 (cutV ao L.length co k 2) (L.length - k) (ltCells (L.drop k))) := Lib.hid fun W hW => by
            have h1 := Sl.drop (k := k) (HSO.out.below hW (Nat.le_refl _)) (by simpa using HKL.out)
            rw [← List.map_drop] at h1
            have h2 := src_lots h1
            rwa [List.length_drop] at h2
          have HL : Hid (k + 1 ≤ maxLen ∧ (k + 1) * 24 ≤ 140737488355328) := Lib.hid (by have := HKL.out; have := HLL.out; simp only [maxLen]; omega)
          have HL2 : Hid (k + 1 + (L.length - k) ≤ maxLen ∧ (k + 1 + (L.length - k)) * 24 ≤ 140737488355328) := Lib.hid (by have := HKL.out; have := HLL.out; simp only [maxLen]; omega)
          clear hi hz hsz hby hcap
          refine Any.region_lit (fun
            | 0 => Any.row w8.heap.size 38 2 (0) ([]) []
            | 1 => Any.val (.slice ao L.length co)
            | 2 => Any.val (.int .i64 (k : Int))
            | 3 => Any.val (.slice ao k co)
            | 4 => Any.row w8.heap.size 38 2 (k) (ltCells (L.take k)) [0]
            | 5 => Any.val (.slice (some ⟨b, off, none⟩) l.length c)
            | 6 => Any.val (.int .i64 (n : Int))
            | 7 => Any.val (.pointer (some ⟨b, off + n * 2, none⟩))
            | 8 => Any.val (.agg #[.string xn, .int .i64 xc])
            | 9 => Any.made 38 1 #[.string xn, .int .i64 xc]
            | 10 => Any.row w8.heap.size 38 2 (k + 1) (ltCells (L.take k) ++ [.string xn, .int .i64 xc]) [4]
            | 11 => Any.val (.slice ao L.length co)
            | 12 => Any.val (.int .i64 (k : Int))
            | 13 => Any.val (cutV ao L.length co k 2)
            | 14 => Any.row w8.heap.size 38 2 (k + 1 + (L.length - k)) (ltCells (L.take k) ++ [.string xn, .int .i64 xc] ++ ltCells (L.drop k)) [10]
            | 15 => Any.row w8.heap.size 38 2 (k + 1 + (L.length - k)) (ltCells (L.take k) ++ [.string xn, .int .i64 xc] ++ ltCells (L.drop k)) [14]
            | _ => Any.idle) (by kernel_rfl) (by kernel_rfl) (by kernel_rfl) ?_ ?_ ?_
          · intro i _
            match i with
            | 0 => exact Any.lasts_row _ _ _ _ _ _
            | 1 => exact Any.lasts_val _
            | 2 => exact Any.lasts_val _
            | 3 => exact Any.lasts_val _
            | 4 => exact Any.lasts_row _ _ _ _ _ _
            | 5 => exact Any.lasts_val _
            | 6 => exact Any.lasts_val _
            | 7 => exact Any.lasts_val _
            | 8 => exact Any.lasts_val _
            | 9 => exact Any.lasts_made _ _ _
            | 10 => exact Any.lasts_row _ _ _ _ _ _
            | 11 => exact Any.lasts_val _
            | 12 => exact Any.lasts_val _
            | 13 => exact Any.lasts_val _
            | 14 => exact Any.lasts_row _ _ _ _ _ _
            | 15 => exact Any.lasts_row _ _ _ _ _ _
            | n + 16 => exact Any.lasts_idle
          · refine ⟨?_, ?_, ?_, ?_, ?_, ?_, ?_, ?_, ?_, ?_, ?_, ?_, ?_, ?_, ?_, ?_, trivial⟩
            · refine Any.owes_plain rfl fun ρ wo hs' hb hc' => ?_
              go_simp
              exact Any.post_new hb (own_empty (show w8.heap.size ≤ wo.heap.size from hb.size)) (one_below _ _) (by intro b hb'; obtain rfl : wo.heap.size = b := Option.some.inj hb'; exact Nat.le_refl _)
            · refine Any.owes_plain rfl fun ρ wo hs' hb hc' => ?_
              have h3 : ρ (.tmp 3) = .slice ao L.length co := hs'.old' 3 (by kernel_rfl)
              exact Any.ok_move (Any.post_val hb rfl h3)
            · refine Any.owes_plain rfl fun ρ wo hs' hb hc' => ?_
              have h5 : ρ (.tmp 5) = .int .i64 (k : Int) := hs'.old' 5 (by kernel_rfl)
              exact Any.ok_move (Any.post_val hb rfl h5)
            · refine Any.owes_plain rfl fun ρ wo hs' hb hc' => ?_
              have h71 : ρ (.tmp 71) = .slice ao L.length co := hs'.new' 71 1 (by kernel_rfl)
              have h72 : ρ (.tmp 72) = .int .i64 (k : Int) := hs'.new' 72 2 (by kernel_rfl)
              have q1 := QT.out wo
              go_simp
              exact Any.post_val hb rfl rfl
            · refine Any.owes_plain rfl fun ρ wo hs' hb hc' => ?_
              have h73 : ρ (.tmp 73) = .slice ao k co := hs'.new' 73 3 (by kernel_rfl)
              have h8 : wo.ownsRow w8.heap.size 38 2 (ρ (.tmp 70)) 0 [] := hs'.new' 70 0 (by kernel_rfl)
              have hsrc : Src wo 2 (ρ (.tmp 73)) k (ltCells (L.take k)) := by rw [h73]; exact HSA.out wo (HBL.out.trans ((below_undrew hb).mono HBL.out.size))
              refine Any.ok_append_own Tryz.underlying23 HI.out.1 HI.out.2.1 HI.out.2.2.1 HI.out.2.2.2 rfl (by decide) h8 hsrc (ltCells_one _) (by have := HL.out.1; omega) (by have := HL.out.2; omega) (show w8.heap.size ≤ wo.heap.size from hb.size) fun v' w' h1 h2 h3 => ?_
              rw [List.nil_append, Nat.zero_add] at h1
              exact Any.post_take hb h1 h2 rfl ⟨_, _, _, rfl⟩ rfl rfl (Nat.le_refl _) h3 (fun b hb => (h8.lt b hb).1)
            · refine Any.owes_plain rfl fun ρ wo hs' hb hc' => ?_
              have h0 : ρ (.tmp 0) = .slice (some ⟨b, off, none⟩) l.length c := hs'.old' 0 (by kernel_rfl)
              exact Any.ok_move (Any.post_val hb rfl h0)
            · refine Any.owes_plain rfl fun ρ wo hs' hb hc' => ?_
              have h4 : ρ (.tmp 4) = .int .i64 (n : Int) := hs'.old' 4 (by kernel_rfl)
              exact Any.ok_move (Any.post_val hb rfl h4)
            · refine Any.owes_plain rfl fun ρ wo hs' hb hc' => ?_
              have h75 : ρ (.tmp 75) = .slice (some ⟨b, off, none⟩) l.length c := hs'.new' 75 5 (by kernel_rfl)
              have h76 : ρ (.tmp 76) = .int .i64 (n : Int) := hs'.new' 76 6 (by kernel_rfl)
              go_simp
              exact Any.post_val hb rfl rfl
            · refine Any.owes_plain rfl fun ρ wo hs' hb hc' => ?_
              have h77 : ρ (.tmp 77) = .pointer (some ⟨b, off + n * 2, none⟩) := hs'.new' 77 7 (by kernel_rfl)
              have c0 := HX.out wo (HBL.out.trans ((below_undrew hb).mono HBL.out.size))
              have c1 := HXC.out wo (HBL.out.trans ((below_undrew hb).mono HBL.out.size))
              go_simp
              exact Any.post_val hb rfl rfl
            · refine Any.owes_plain rfl fun ρ wo hs' hb hc' => ?_
              have h78 : ρ (.tmp 78) = .agg #[.string xn, .int .i64 xc] := hs'.new' 78 8 (by kernel_rfl)
              go_simp
              exact Any.post_new hb ⟨_, rfl, heap_alloc_new _ _⟩ (one_below _ _) (by intro b hb'; obtain rfl : wo.heap.size = b := Option.some.inj hb'; exact Nat.le_refl _)
            · refine Any.owes_plain rfl fun ρ wo hs' hb hc' => ?_
              have h8 : wo.ownsRow w8.heap.size 38 2 (ρ (.tmp 74)) (k) (ltCells (L.take k)) := hs'.new' 74 4 (by kernel_rfl)
              obtain ⟨g, hg, hgb⟩ := hs'.new' 79 9 (by kernel_rfl)
              have hsrc : Src wo 2 (ρ (.tmp 79)) 1 [.string xn, .int .i64 xc] := by rw [hg]; exact src_block hgb rfl
              refine Any.ok_append_own Tryz.underlying23 HI.out.1 HI.out.2.1 HI.out.2.2.1 HI.out.2.2.2 rfl (by decide) h8 hsrc (lt_one xn xc) HL.out.1 HL.out.2 (show w8.heap.size ≤ wo.heap.size from hb.size) fun v' w' h1 h2 h3 => ?_
              exact Any.post_take hb h1 h2 rfl ⟨_, _, _, rfl⟩ rfl rfl (Nat.le_refl _) h3 (fun b hb => (h8.lt b hb).1)
            · refine Any.owes_plain rfl fun ρ wo hs' hb hc' => ?_
              have h3 : ρ (.tmp 3) = .slice ao L.length co := hs'.old' 3 (by kernel_rfl)
              exact Any.ok_move (Any.post_val hb rfl h3)
            · refine Any.owes_plain rfl fun ρ wo hs' hb hc' => ?_
              have h5 : ρ (.tmp 5) = .int .i64 (k : Int) := hs'.old' 5 (by kernel_rfl)
              exact Any.ok_move (Any.post_val hb rfl h5)
            · refine Any.owes_plain rfl fun ρ wo hs' hb hc' => ?_
              have h81 : ρ (.tmp 81) = .slice ao L.length co := hs'.new' 81 11 (by kernel_rfl)
              have h82 : ρ (.tmp 82) = .int .i64 (k : Int) := hs'.new' 82 12 (by kernel_rfl)
              have q2 := QF.out wo
              go_simp
              exact Any.post_val hb rfl rfl
            · refine Any.owes_plain rfl fun ρ wo hs' hb hc' => ?_
              have h83 : ρ (.tmp 83) = cutV ao L.length co k 2 := hs'.new' 83 13 (by kernel_rfl)
              have h8 : wo.ownsRow w8.heap.size 38 2 (ρ (.tmp 80)) (k + 1) (ltCells (L.take k) ++ [.string xn, .int .i64 xc]) := hs'.new' 80 10 (by kernel_rfl)
              have hsrc : Src wo 2 (ρ (.tmp 83)) (L.length - k) (ltCells (L.drop k)) := by rw [h83]; exact HSD.out wo (HBL.out.trans ((below_undrew hb).mono HBL.out.size))
              refine Any.ok_append_own Tryz.underlying23 HI.out.1 HI.out.2.1 HI.out.2.2.1 HI.out.2.2.2 rfl (by decide) h8 hsrc (ltCells_one _) HL2.out.1 HL2.out.2 (show w8.heap.size ≤ wo.heap.size from hb.size) fun v' w' h1 h2 h3 => ?_
              exact Any.post_take hb h1 h2 rfl ⟨_, _, _, rfl⟩ rfl rfl (Nat.le_refl _) h3 (fun b hb => (h8.lt b hb).1)
            · refine Any.owes_plain rfl fun ρ wo hs' hb hc' => ?_
              have h8 : wo.ownsRow w8.heap.size 38 2 (ρ (.tmp 84)) (k + 1 + (L.length - k)) (ltCells (L.take k) ++ [.string xn, .int .i64 xc] ++ ltCells (L.drop k)) := hs'.new' 84 14 (by kernel_rfl)
              exact Any.ok_assign (Any.post_pass hb rfl ⟨_, rfl⟩ rfl rfl h8)
          intro vals w9 hb hk ha
          have o15 : w9.ownsRow w8.heap.size 38 2 (vals 15) (k + 1 + (L.length - k)) (ltCells (L.take k) ++ [.string xn, .int .i64 xc] ++ ltCells (L.drop k)) := hk 15 (by kernel_rfl)
          have HO9 := Lib.hid (ownsRow_base (own_ins HKL.out o15) (Nat.le_trans HBEL.out.size HBL.out.size))
          have HBL := Lib.hid (HBL.out.trans (hb.mono HBL.out.size))
          clear hk ha hb
          simp only [Any.putAll]
          go_frame
          simp only [Nat.zero_add, Nat.reduceAdd]
          generalize vals 15 = v9 at *
          clear o15
          go_wp2_with fail
          go_roundw
          case rel => exact ⟨n + 1, by have := HNL.out; omega, by go_num, by rw [HNX.out, HJI.out]; exact HO9.out, HBEL.out.trans (HBL.out.mono HBEL.out.size)⟩
          case measure => have := HNL.out; (simp [intOf]) <;> omega
    · have HE : Hid (l.take n = l) := Lib.hid (List.take_of_length_le (by omega))
      clear hown hbel hn
      go_wp2_with fail
      go_ret
      have ho := HOWN.out
      rw [HE.out] at ho
      exact retRow ho (Nat.le_refl _) HBEL.out
end Go.Proofs.YtgnfdplphpejaaaGreatDoor.Sc
