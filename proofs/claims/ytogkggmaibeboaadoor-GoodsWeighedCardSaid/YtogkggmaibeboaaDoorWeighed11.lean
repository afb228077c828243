/- Lots weigh what they weigh joined, and what both parts do; a piece more weighs its good's weight more. No condition. -/
import Derived.Test.YtogkggmaibeboaaDoorAwake11
import Derived.Test.YtogkggmaibeboaaDoorEq11
import Derived.Test.YtogkggmaibeboaaDoorFew11
import Derived.Test.YtogkggmaibeboaaDoorCut
import Derived.Test.YtogkggmaibeboaaDoorWeighPl11
import Derived.Test.YtogkggmaibeboaaDoorLawD11
namespace Go.Proofs.YtogkggmaibeboaaDoor.goodsWeighed
open Go.ChangeShapes Go.WideShapes Go.ChangeAt Go.RowKit Go Sc
set_option maxRecDepth 100000

theorem ltCells_one (l : List Lt) : ∀ u ∈ ltCells l, u.oneCell' = true := by
  intro u hu
  obtain ⟨x, _, h⟩ := List.mem_flatMap.1 hu
  simp [Lt.row] at h
  rcases h with rfl | rfl <;> rfl
theorem lt_rows' (l : List Lt) : ∀ r ∈ l.map Lt.row, r.length = 2 := by
  intro r hr
  obtain ⟨d, _, rfl⟩ := List.mem_map.1 hr
  rfl
set_option maxHeartbeats 16000000 in
theorem walk (w : World) (hap : ApT w) (t : List Gd) (vt : Value) (hst : Sl w 4 vt (t.map Gd.row)) (hft : ∀ g ∈ t, g.fit) (l : List Lt) (vl : Value) (hsl : Sl w 2 vl (l.map Lt.row)) (_ : ∀ x ∈ l, x.fit)
    (cut : Int) (_ : (Lit.int .i64 cut).wf = true) (at' : Int) (_ : (Lit.int .i64 at').wf = true) :
    Calls Tryd.prog 4 #[vt, vl, .int .i64 cut, .int .i64 at'] w (RetB w true) := by
  have HAW := Lib.hid (awake_any w hap)
  have HFT := Lib.hid (fun W (hW : Below w.heap.size w W) => few_any t vt W (hst.below hW (Nat.le_refl _)))
  have HFL := Lib.hid (fun W (hW : Below w.heap.size w W) => refFew_any l vl W (hsl.below hW (Nat.le_refl _)))
  obtain ⟨a, ct, rfl⟩ : ∃ a c, vt = .slice a t.length c := by simpa using hst.shape
  obtain ⟨al, cl, rfl⟩ : ∃ a c, vl = .slice a l.length c := by simpa using hsl.shape
  have HS := Lib.hid hst
  have HSL := Lib.hid hsl
  have HF := Lib.hid hft
  clear hap hst hsl hft
  go_enter Tryd.func4, Tryd.ntmps4
  go_wp2_with (first
    | ((with_reducible refine HAW.out.mono ?_); rintro e w1 ⟨rfl, hb1⟩; have HB := Lib.hid hb1; clear hb1)
    | fail)
  refine (HFT.out _ HB.out).mono ?_
  rintro e w2 ⟨b, rfl, hb, hb2⟩
  have HB := Lib.hid (HB.out.trans (hb2.mono HB.out.size))
  clear hb2
  cases b with
  | false =>
    clear hb
    go_wp2_with fail
    go_ret
    exact ⟨rfl, HB.out⟩
  | true =>
  have HTL : Hid (t.length ≤ 41) := Lib.hid (hb rfl)
  have htl : t.length ≤ 41 := hb rfl
  clear hb
  go_wp2_with fail
  refine (HFL.out _ HB.out).mono ?_
  rintro e w3 ⟨b, rfl, hb, hb3⟩
  have HB := Lib.hid (HB.out.trans (hb3.mono HB.out.size))
  clear hb3
  cases b with
  | false =>
    clear hb
    go_wp2_with fail
    go_ret
    exact ⟨rfl, HB.out⟩
  | true =>
  have HFW := Lib.hid (hb rfl)
  have hll : l.length ≤ 41 := HFW.out.len
  clear hb
  by_cases hc0 : cut < 0
  · have t1 : decide (cut < 0) = true := decide_eq_true hc0
    clear hc0
    go_wp2_with fail
    go_ret
    exact ⟨rfl, HB.out⟩
  have t1 : decide (cut < 0) = false := decide_eq_false hc0
  by_cases hc1 : (l.length : Int) < cut
  · have t2 : decide ((l.length : Int) < cut) = true := decide_eq_true hc1
    clear hc0 hc1
    go_wp2_with fail
    go_ret
    exact ⟨rfl, HB.out⟩
  have t2 : decide ((l.length : Int) < cut) = false := decide_eq_false hc1
  obtain ⟨k, rfl⟩ : ∃ k : Nat, cut = (k : Int) := ⟨cut.toNat, by omega⟩
  have hk : k ≤ l.length := by omega
  clear hc0 hc1
  have HSB := Lib.hid (fun W (hW : Below w.heap.size w W) => HS.out.below hW (Nat.le_refl _))
  by_cases h0 : tabC t = 0
  rotate_left
  · have HNW := Lib.hid (fun W (hW : Below w.heap.size w W) => (newG_any t _ W (HSB.out W hW) (by have := HTL.out; omega) HF.out).mono fun e w' h => newG_bad h h0)
    obtain ⟨q, hq⟩ : ∃ q, q = tabC t := ⟨_, rfl⟩
    rw [← hq] at HNW h0
    have tq : (q != 0) = true := by simp [h0]
    clear h0 hq hk
    go_wp2_with (first
      | ((with_reducible refine (HNW.out _ HB.out).mono ?_); rintro e w4 ⟨rfl, hb4⟩; have HB := Lib.hid (HB.out.trans (hb4.mono HB.out.size)); clear hb4)
      | fail)
    all_goals
      go_ret
      exact ⟨rfl, HB.out⟩
  have hok := tabC_ok h0
  have HNW := Lib.hid (fun W (hW : Below w.heap.size w W) => (newG_any t _ W (HSB.out W hW) (by have := HTL.out; omega) HF.out).mono fun e w' h => newG_ok h h0)
  have HWE := Lib.hid (fun (L : List Lt) (v : Value) W (bt bm : Nat) (hs : Sl W 2 v (L.map Lt.row)) (h : Tab W bt bm t) => weight_any t L bt bm v W hs h hok.2.1 hok.1)
  have HW1 : Hid (∀ W (bt bm : Nat), Below w.heap.size w W → Tab W bt bm t → Calls Tryd.prog 16 #[.pointer (some ⟨bt, 0, none⟩), .slice al l.length cl] W (Ret W (sumV t Gd.wt l))) := Lib.hid (fun W bt bm hW h => HWE.out l _ W bt bm (HSL.out.below hW (Nat.le_refl _)) h)
  obtain ⟨n, q, hv⟩ := sumV_pair t Gd.wt l
  rw [hv] at HW1
  by_cases hq : q = 0
  rotate_left
  · obtain rfl := sumV_none hv hq
    have tq : (q != 0) = true := by simp [hq]
    clear hv hq hk hok h0
    go_wp2_with (first
      | ((with_reducible refine (HNW.out _ HB.out).mono ?_); rintro e w4 ⟨bt, bm, rfl, ht4, hb4⟩; have HT := Lib.hid ht4; have HB := Lib.hid (HB.out.trans (hb4.mono HB.out.size)); clear ht4 hb4)
      | ((with_reducible refine (HW1.out _ _ _ HB.out HT.out).mono ?_); rintro e w5 ⟨rfl, hb5⟩; have HT := Lib.hid (HT.out.below hb5); have HB := Lib.hid (HB.out.trans (hb5.mono HB.out.size)); clear hb5)
      | fail)
    all_goals
      go_ret
      exact ⟨rfl, HB.out⟩
  subst hq
  obtain ⟨hin, hmax, rfl⟩ := sumV_fit hv
  have HK := Lib.hid hk
  have hcap := (Sl.take (m := k) HSL.out (by simpa using hk)).1
  obtain ⟨i0, hi, hz, hsz, hby⟩ := info_parts infoLt
  have q1 : ∀ w, (Instr.slice 25 (.slice al l.length cl) none (some (.int .i64 (k : Int))) none).run Tryd.prog w = .ok (.slice al k cl) w := fun w => Any.run_slice_to Tryd.underlying25 hi al _ cl k hcap
  have q2 : ∀ w, (Instr.slice 25 (.slice al l.length cl) (some (.int .i64 (k : Int))) none none).run Tryd.prog w = .ok (cutV al l.length cl k 2) w := fun w => run_slice_from Tryd.underlying25 hi hsz al _ cl k hk
  have HW2 : Hid (∀ W (bt bm : Nat), Below w.heap.size w W → Tab W bt bm t → Calls Tryd.prog 16 #[.pointer (some ⟨bt, 0, none⟩), .slice al k cl] W (Ret W (sumV t Gd.wt (l.take k)))) := Lib.hid (fun W bt bm hW h => HWE.out _ _ W bt bm (by
    rw [List.map_take]
    exact (Sl.take (HSL.out.below hW (Nat.le_refl _)) (by simpa using HK.out)).2) h)
  have HW3 : Hid (∀ W (bt bm : Nat), Below w.heap.size w W → Tab W bt bm t → Calls Tryd.prog 16 #[.pointer (some ⟨bt, 0, none⟩), cutV al l.length cl k 2] W (Ret W (sumV t Gd.wt (l.drop k)))) := Lib.hid (fun W bt bm hW h => HWE.out _ _ W bt bm (by
    rw [List.map_drop]
    exact Sl.drop (HSL.out.below hW (Nat.le_refl _)) (by simpa using HK.out)) h)
  obtain ⟨hp1, hp2, hp3⟩ := sum_parts hin hok.1 hmax k
  rw [hp1] at HW2
  rw [hp2] at HW3
  have hA0 : 0 ≤ sumL t Gd.wt (l.take k) := sumL_nonneg hin (sel_wt hok.1) k
  have hB0 : 0 ≤ sumL t Gd.wt (l.drop k) := by
    have h3 := sumL_nonneg (all_drop hin k) (sel_wt hok.1) (l.drop k).length
    rwa [List.take_length] at h3
  have HJN := Lib.hid (fun W (hW : Below w.heap.size w W) => join_any l _ W (HSL.out.below hW (Nat.le_refl _)) (by have := HFW.out.len; omega) HFW.out.cnt)
  have HWJ := Lib.hid (fun W (bt bm : Nat) v (hs : Sl W 2 v ((joinL l).map Lt.row)) (h : Tab W bt bm t) => HWE.out _ v W bt bm hs h)
  have HMO := Lib.hid (fun (j : Nat) (hj : j < t.length) => sumV_more hin hok.1 hok.2.1 hj)
  have HGR := Lib.hid (fun (j : Nat) (hj : j < t.length) => (gd_range (hok.1 _ (List.getElem_mem hj))).1)
  have HJC := sumV_join (t := t) (f := Gd.wt) hin hmax
  have HI := Lib.hid (And.intro hi (And.intro hz (And.intro hsz hby)))
  have HSRC : Hid (∀ W, Below w.heap.size w W → Src W 2 (.slice al l.length cl) l.length (ltCells l)) := Lib.hid (fun W hW => by
    have := (HSL.out.below hW (Nat.le_refl _)).src (lt_rows' l) (by decide)
    rw [ltCells_flat]
    simpa using this)
  generalize sumL t Gd.wt (l.take k) = A at *
  generalize sumL t Gd.wt (l.drop k) = B at *
  generalize sumL t Gd.wt l = S at *
  have tab : (A + B != S) = false := by simp [hp3]
  have hab : A + B ≤ 1099511627776 := by omega
  have hS0 : 0 ≤ S := by omega
  have ts : (S != S) = false := by simp
  clear hv hok h0 hin hi hz hsz hby hp1 hp2 hcap
  by_cases ha0 : at' < 0
  · have t3 : decide (at' < 0) = true := decide_eq_true ha0
    clear ha0
    rcases HJC with hj | hj <;> rw [hj] at HWJ <;> clear hj
    · go_wp2_with (first
        | ((with_reducible refine (HNW.out _ HB.out).mono ?_); rintro e w4 ⟨bt, bm, rfl, ht4, hb4⟩; have HT := Lib.hid ht4; have HB := Lib.hid (HB.out.trans (hb4.mono HB.out.size)); clear ht4 hb4)
        | ((with_reducible refine (HW1.out _ _ _ HB.out HT.out).mono ?_); rintro e w5 ⟨rfl, hb5⟩; have HT := Lib.hid (HT.out.below hb5); have HB := Lib.hid (HB.out.trans (hb5.mono HB.out.size)); clear hb5)
        | ((with_reducible refine (HW2.out _ _ _ HB.out HT.out).mono ?_); rintro e w6 ⟨rfl, hb6⟩; have HT := Lib.hid (HT.out.below hb6); have HB := Lib.hid (HB.out.trans (hb6.mono HB.out.size)); clear hb6)
        | ((with_reducible refine (HW3.out _ _ _ HB.out HT.out).mono ?_); rintro e w7 ⟨rfl, hb7⟩; have HT := Lib.hid (HT.out.below hb7); have HB := Lib.hid (HB.out.trans (hb7.mono HB.out.size)); clear hb7)
        | ((with_reducible refine (HJN.out _ HB.out).mono ?_); rintro e w8 ⟨v8, rfl, ho8, hb8⟩; have HJ := Lib.hid (own_lots ho8 rfl); have HT := Lib.hid (HT.out.below hb8); have HB := Lib.hid (HB.out.trans (hb8.mono HB.out.size)); clear ho8 hb8)
        | ((with_reducible refine (HWJ.out _ _ _ _ HJ.out HT.out).mono ?_); rintro e w9 ⟨rfl, hb9⟩; have HT := Lib.hid (HT.out.below hb9); have HB := Lib.hid (HB.out.trans (hb9.mono HB.out.size)); clear hb9)
        | fail)
      go_ret
      exact ⟨rfl, HB.out⟩
    · go_wp2_with (first
        | ((with_reducible refine (HNW.out _ HB.out).mono ?_); rintro e w4 ⟨bt, bm, rfl, ht4, hb4⟩; have HT := Lib.hid ht4; have HB := Lib.hid (HB.out.trans (hb4.mono HB.out.size)); clear ht4 hb4)
        | ((with_reducible refine (HW1.out _ _ _ HB.out HT.out).mono ?_); rintro e w5 ⟨rfl, hb5⟩; have HT := Lib.hid (HT.out.below hb5); have HB := Lib.hid (HB.out.trans (hb5.mono HB.out.size)); clear hb5)
        | ((with_reducible refine (HW2.out _ _ _ HB.out HT.out).mono ?_); rintro e w6 ⟨rfl, hb6⟩; have HT := Lib.hid (HT.out.below hb6); have HB := Lib.hid (HB.out.trans (hb6.mono HB.out.size)); clear hb6)
        | ((with_reducible refine (HW3.out _ _ _ HB.out HT.out).mono ?_); rintro e w7 ⟨rfl, hb7⟩; have HT := Lib.hid (HT.out.below hb7); have HB := Lib.hid (HB.out.trans (hb7.mono HB.out.size)); clear hb7)
        | ((with_reducible refine (HJN.out _ HB.out).mono ?_); rintro e w8 ⟨v8, rfl, ho8, hb8⟩; have HJ := Lib.hid (own_lots ho8 rfl); have HT := Lib.hid (HT.out.below hb8); have HB := Lib.hid (HB.out.trans (hb8.mono HB.out.size)); clear ho8 hb8)
        | ((with_reducible refine (HWJ.out _ _ _ _ HJ.out HT.out).mono ?_); rintro e w9 ⟨rfl, hb9⟩; have HT := Lib.hid (HT.out.below hb9); have HB := Lib.hid (HB.out.trans (hb9.mono HB.out.size)); clear hb9)
        | fail)
      go_ret
      exact ⟨rfl, HB.out⟩

  have t3 : decide (at' < 0) = false := decide_eq_false ha0
  by_cases ha1 : (t.length : Int) ≤ at'
  · have t4 : decide ((t.length : Int) ≤ at') = true := decide_eq_true ha1
    clear ha0 ha1
    rcases HJC with hj | hj <;> rw [hj] at HWJ <;> clear hj
    · go_wp2_with (first
        | ((with_reducible refine (HNW.out _ HB.out).mono ?_); rintro e w4 ⟨bt, bm, rfl, ht4, hb4⟩; have HT := Lib.hid ht4; have HB := Lib.hid (HB.out.trans (hb4.mono HB.out.size)); clear ht4 hb4)
        | ((with_reducible refine (HW1.out _ _ _ HB.out HT.out).mono ?_); rintro e w5 ⟨rfl, hb5⟩; have HT := Lib.hid (HT.out.below hb5); have HB := Lib.hid (HB.out.trans (hb5.mono HB.out.size)); clear hb5)
        | ((with_reducible refine (HW2.out _ _ _ HB.out HT.out).mono ?_); rintro e w6 ⟨rfl, hb6⟩; have HT := Lib.hid (HT.out.below hb6); have HB := Lib.hid (HB.out.trans (hb6.mono HB.out.size)); clear hb6)
        | ((with_reducible refine (HW3.out _ _ _ HB.out HT.out).mono ?_); rintro e w7 ⟨rfl, hb7⟩; have HT := Lib.hid (HT.out.below hb7); have HB := Lib.hid (HB.out.trans (hb7.mono HB.out.size)); clear hb7)
        | ((with_reducible refine (HJN.out _ HB.out).mono ?_); rintro e w8 ⟨v8, rfl, ho8, hb8⟩; have HJ := Lib.hid (own_lots ho8 rfl); have HT := Lib.hid (HT.out.below hb8); have HB := Lib.hid (HB.out.trans (hb8.mono HB.out.size)); clear ho8 hb8)
        | ((with_reducible refine (HWJ.out _ _ _ _ HJ.out HT.out).mono ?_); rintro e w9 ⟨rfl, hb9⟩; have HT := Lib.hid (HT.out.below hb9); have HB := Lib.hid (HB.out.trans (hb9.mono HB.out.size)); clear hb9)
        | fail)
      go_ret
      exact ⟨rfl, HB.out⟩
    · go_wp2_with (first
        | ((with_reducible refine (HNW.out _ HB.out).mono ?_); rintro e w4 ⟨bt, bm, rfl, ht4, hb4⟩; have HT := Lib.hid ht4; have HB := Lib.hid (HB.out.trans (hb4.mono HB.out.size)); clear ht4 hb4)
        | ((with_reducible refine (HW1.out _ _ _ HB.out HT.out).mono ?_); rintro e w5 ⟨rfl, hb5⟩; have HT := Lib.hid (HT.out.below hb5); have HB := Lib.hid (HB.out.trans (hb5.mono HB.out.size)); clear hb5)
        | ((with_reducible refine (HW2.out _ _ _ HB.out HT.out).mono ?_); rintro e w6 ⟨rfl, hb6⟩; have HT := Lib.hid (HT.out.below hb6); have HB := Lib.hid (HB.out.trans (hb6.mono HB.out.size)); clear hb6)
        | ((with_reducible refine (HW3.out _ _ _ HB.out HT.out).mono ?_); rintro e w7 ⟨rfl, hb7⟩; have HT := Lib.hid (HT.out.below hb7); have HB := Lib.hid (HB.out.trans (hb7.mono HB.out.size)); clear hb7)
        | ((with_reducible refine (HJN.out _ HB.out).mono ?_); rintro e w8 ⟨v8, rfl, ho8, hb8⟩; have HJ := Lib.hid (own_lots ho8 rfl); have HT := Lib.hid (HT.out.below hb8); have HB := Lib.hid (HB.out.trans (hb8.mono HB.out.size)); clear ho8 hb8)
        | ((with_reducible refine (HWJ.out _ _ _ _ HJ.out HT.out).mono ?_); rintro e w9 ⟨rfl, hb9⟩; have HT := Lib.hid (HT.out.below hb9); have HB := Lib.hid (HB.out.trans (hb9.mono HB.out.size)); clear hb9)
        | fail)
      go_ret
      exact ⟨rfl, HB.out⟩

  have t4 : decide ((t.length : Int) ≤ at') = false := decide_eq_false ha1
  obtain ⟨j, rfl⟩ : ∃ j : Nat, at' = (j : Int) := ⟨at'.toNat, by omega⟩
  have hj : j < t.length := by omega
  have tj : ((j : Nat) : Int) < (t.length : Int) := by omega
  clear ha0 ha1
  obtain ⟨b, off, rfl, -, hbb, hc⟩ := HS.out.at (i := j) (by simpa using hj)
  have hrj : (t.map Gd.row)[j]? = some t[j].row := by rw [List.getElem?_map, List.getElem?_eq_getElem hj]; rfl
  have HD : Hid (∀ W, Below w.heap.size w W → W.cell? ⟨b, off + j * 4, none⟩ = some (.string t[j].code) ∧ W.cell? ⟨b, off + j * 4 + 2, none⟩ = some (.int .i64 t[j].wt)) := Lib.hid (fun W hW =>
    ⟨(hW.cell (p := ⟨b, off + j * 4, none⟩) hbb).trans (hc j _ hrj 0 _ rfl), (hW.cell (p := ⟨b, off + j * 4 + 2, none⟩) hbb).trans (hc j _ hrj 2 _ rfl)⟩)
  have hmo := HMO.out j hj
  have hgr := HGR.out j hj
  have HW4 := Lib.hid (fun W (bt bm : Nat) v (hs : Sl W 2 v ((l ++ [Lt.mk t[j].code 1]).map Lt.row)) (h : Tab W bt bm t) => HWE.out _ v W bt bm hs h)
  have HL : Hid (l.length + 1 ≤ maxLen ∧ (l.length + 1) * 24 ≤ 140737488355328) := Lib.hid (by simp only [maxLen]; omega)
  clear hc hrj hbb HMO HGR
  rcases hmo with hm | hm <;> rw [hm] at HW4 <;> clear hm
  · generalize t[j] = y at *
    obtain ⟨xn, xc, xw, xv⟩ := y
    simp only at HD HW4 hgr
    rcases HJC with hj | hj <;> rw [hj] at HWJ <;> clear hj
    · go_wp2_with (first
        | ((with_reducible refine (HNW.out _ HB.out).mono ?_); rintro e w4 ⟨bt, bm, rfl, ht4, hb4⟩; have HT := Lib.hid ht4; have HB := Lib.hid (HB.out.trans (hb4.mono HB.out.size)); clear ht4 hb4)
        | ((with_reducible refine (HW1.out _ _ _ HB.out HT.out).mono ?_); rintro e w5 ⟨rfl, hb5⟩; have HT := Lib.hid (HT.out.below hb5); have HB := Lib.hid (HB.out.trans (hb5.mono HB.out.size)); clear hb5)
        | ((with_reducible refine (HW2.out _ _ _ HB.out HT.out).mono ?_); rintro e w6 ⟨rfl, hb6⟩; have HT := Lib.hid (HT.out.below hb6); have HB := Lib.hid (HB.out.trans (hb6.mono HB.out.size)); clear hb6)
        | ((with_reducible refine (HW3.out _ _ _ HB.out HT.out).mono ?_); rintro e w7 ⟨rfl, hb7⟩; have HT := Lib.hid (HT.out.below hb7); have HB := Lib.hid (HB.out.trans (hb7.mono HB.out.size)); clear hb7)
        | ((with_reducible refine (HJN.out _ HB.out).mono ?_); rintro e w8 ⟨v8, rfl, ho8, hb8⟩; have HJ := Lib.hid (own_lots ho8 rfl); have HT := Lib.hid (HT.out.below hb8); have HB := Lib.hid (HB.out.trans (hb8.mono HB.out.size)); clear ho8 hb8)
        | ((with_reducible refine (HWJ.out _ _ _ _ HJ.out HT.out).mono ?_); rintro e w9 ⟨rfl, hb9⟩; have HT := Lib.hid (HT.out.below hb9); have HB := Lib.hid (HB.out.trans (hb9.mono HB.out.size)); clear hb9)
        | fail)
      obtain ⟨vl, hvl⟩ : ∃ v, v = Value.slice al l.length cl := ⟨_, rfl⟩
      rw [← hvl] at HSRC ⊢
      clear hvl
      refine Any.region_lit (fun
        | 0 => Any.val (.pointer (some ⟨bt, 0, none⟩))
        | 1 => Any.row w9.heap.size 38 2 (0) ([]) []
        | 2 => Any.val (vl)
        | 3 => Any.row w9.heap.size 38 2 (l.length) (ltCells l) [1]
        | 4 => Any.val (.slice (some ⟨b, off, none⟩) t.length ct)
        | 5 => Any.val (.int .i64 (j : Int))
        | 6 => Any.val (.pointer (some ⟨b, off + j * 4, none⟩))
        | 7 => Any.val (.pointer (some ⟨b, off + j * 4, none⟩))
        | 8 => Any.val (.string xn)
        | 9 => Any.val (.agg #[.string xn, .int .i64 1])
        | 10 => Any.made 38 1 #[.string xn, .int .i64 1]
        | 11 => Any.row w9.heap.size 38 2 (l.length + 1) (ltCells l ++ [.string xn, .int .i64 1]) [3]
        | 12 => Any.val (.tuple #[.int .i64 (0), .int .i64 3])
        | 13 => Any.val (.tuple #[.int .i64 (0), .int .i64 3])
        | 14 => Any.val (.int .i64 (0))
        | 15 => Any.val (.int .i64 3)
        | 16 => Any.val (.int .i64 (0))
        | 17 => Any.val (.int .i64 3)
        | _ => Any.idle) (by kernel_rfl) (by kernel_rfl) (by kernel_rfl) ?_ ?_ ?_
      · intro i _
        match i with
        | 0 => exact Any.lasts_val _
        | 1 => exact Any.lasts_row _ _ _ _ _ _
        | 2 => exact Any.lasts_val _
        | 3 => exact Any.lasts_row _ _ _ _ _ _
        | 4 => exact Any.lasts_val _
        | 5 => exact Any.lasts_val _
        | 6 => exact Any.lasts_val _
        | 7 => exact Any.lasts_val _
        | 8 => exact Any.lasts_val _
        | 9 => exact Any.lasts_val _
        | 10 => exact Any.lasts_made _ _ _
        | 11 => exact Any.lasts_row _ _ _ _ _ _
        | 12 => exact Any.lasts_val _
        | 13 => exact Any.lasts_val _
        | 14 => exact Any.lasts_val _
        | 15 => exact Any.lasts_val _
        | 16 => exact Any.lasts_val _
        | 17 => exact Any.lasts_val _
        | n + 18 => exact Any.lasts_idle
      · refine ⟨?_, ?_, ?_, ?_, ?_, ?_, ?_, ?_, ?_, ?_, ?_, ?_, ?_, ?_, ?_, ?_, ?_, ?_, trivial⟩
        · refine Any.owes_plain rfl fun ρ wo hs' hb hc' => ?_
          have h9 : ρ (.tmp 9) = .pointer (some ⟨bt, 0, none⟩) := hs'.old' 9 (by kernel_rfl)
          exact Any.ok_move (Any.post_val hb rfl h9)
        · refine Any.owes_plain rfl fun ρ wo hs' hb hc' => ?_
          go_simp
          exact Any.post_new hb (own_empty (show w9.heap.size ≤ wo.heap.size from hb.size)) (one_below _ _) (by intro b hb'; obtain rfl : wo.heap.size = b := Option.some.inj hb'; exact Nat.le_refl _)
        · refine Any.owes_plain rfl fun ρ wo hs' hb hc' => ?_
          have h1 : ρ (.tmp 1) = vl := hs'.old' 1 (by kernel_rfl)
          exact Any.ok_move (Any.post_val hb rfl h1)
        · refine Any.owes_plain rfl fun ρ wo hs' hb hc' => ?_
          have h124 : ρ (.tmp 124) = vl := hs'.new' 124 2 (by kernel_rfl)
          have h8 : wo.ownsRow w9.heap.size 38 2 (ρ (.tmp 123)) 0 [] := hs'.new' 123 1 (by kernel_rfl)
          have hsrc : Src wo 2 (ρ (.tmp 124)) l.length (ltCells l) := by rw [h124]; exact HSRC.out wo (HB.out.trans ((below_undrew hb).mono HB.out.size))
          refine Any.ok_append_own Tryd.underlying25 HI.out.1 HI.out.2.1 HI.out.2.2.1 HI.out.2.2.2 rfl (by decide) h8 hsrc (ltCells_one l) (by have := HL.out.1; omega) (by have := HL.out.2; omega) (show w9.heap.size ≤ wo.heap.size from hb.size) fun v' w' h1 h2 h3 => ?_
          rw [List.nil_append, Nat.zero_add] at h1
          exact Any.post_take hb h1 h2 rfl ⟨_, _, _, rfl⟩ rfl rfl (Nat.le_refl _) h3 (fun b hb => (h8.lt b hb).1)
        · refine Any.owes_plain rfl fun ρ wo hs' hb hc' => ?_
          have h0 : ρ (.tmp 0) = .slice (some ⟨b, off, none⟩) t.length ct := hs'.old' 0 (by kernel_rfl)
          exact Any.ok_move (Any.post_val hb rfl h0)
        · refine Any.owes_plain rfl fun ρ wo hs' hb hc' => ?_
          have h3 : ρ (.tmp 3) = .int .i64 (j : Int) := hs'.old' 3 (by kernel_rfl)
          exact Any.ok_move (Any.post_val hb rfl h3)
        · refine Any.owes_plain rfl fun ρ wo hs' hb hc' => ?_
          have h126 : ρ (.tmp 126) = .slice (some ⟨b, off, none⟩) t.length ct := hs'.new' 126 4 (by kernel_rfl)
          have h127 : ρ (.tmp 127) = .int .i64 (j : Int) := hs'.new' 127 5 (by kernel_rfl)
          go_simp
          exact Any.post_val hb rfl rfl
        · refine Any.owes_plain rfl fun ρ wo hs' hb hc' => ?_
          have h128 : ρ (.tmp 128) = .pointer (some ⟨b, off + j * 4, none⟩) := hs'.new' 128 6 (by kernel_rfl)
          go_simp
          exact Any.post_val hb rfl rfl
        · refine Any.owes_plain rfl fun ρ wo hs' hb hc' => ?_
          have h129 : ρ (.tmp 129) = .pointer (some ⟨b, off + j * 4, none⟩) := hs'.new' 129 7 (by kernel_rfl)
          have c0 := (HD.out wo (HB.out.trans ((below_undrew hb).mono HB.out.size))).1
          go_simp
          exact Any.post_val hb rfl rfl
        · refine Any.owes_plain rfl fun ρ wo hs' hb hc' => ?_
          have h130 : ρ (.tmp 130) = .string xn := hs'.new' 130 8 (by kernel_rfl)
          go_simp
          exact Any.post_val hb rfl rfl
        · refine Any.owes_plain rfl fun ρ wo hs' hb hc' => ?_
          have h131 : ρ (.tmp 131) = .agg #[.string xn, .int .i64 1] := hs'.new' 131 9 (by kernel_rfl)
          go_simp
          exact Any.post_new hb ⟨_, rfl, heap_alloc_new _ _⟩ (one_below _ _) (by intro b hb'; obtain rfl : wo.heap.size = b := Option.some.inj hb'; exact Nat.le_refl _)
        · refine Any.owes_plain rfl fun ρ wo hs' hb hc' => ?_
          have h8 : wo.ownsRow w9.heap.size 38 2 (ρ (.tmp 125)) (l.length) (ltCells l) := hs'.new' 125 3 (by kernel_rfl)
          obtain ⟨g, hg, hgb⟩ := hs'.new' 132 10 (by kernel_rfl)
          have hsrc : Src wo 2 (ρ (.tmp 132)) 1 [.string xn, .int .i64 1] := by rw [hg]; exact src_block hgb rfl
          refine Any.ok_append_own Tryd.underlying25 HI.out.1 HI.out.2.1 HI.out.2.2.1 HI.out.2.2.2 rfl (by decide) h8 hsrc (by simp [Value.oneCell']) HL.out.1 HL.out.2 (show w9.heap.size ≤ wo.heap.size from hb.size) fun v' w' h1 h2 h3 => ?_
          exact Any.post_take hb h1 h2 rfl ⟨_, _, _, rfl⟩ rfl rfl (Nat.le_refl _) h3 (fun b hb => (h8.lt b hb).1)
        · refine Any.owes_plain rfl fun ρ wo hs' hb hc' => ?_
          have h122 : ρ (.tmp 122) = .pointer (some ⟨bt, 0, none⟩) := hs'.new' 122 0 (by kernel_rfl)
          have hf := hs'.func 16
          have h8 : wo.ownsRow w9.heap.size 38 2 (ρ (.tmp 133)) (l.length + 1) (ltCells l ++ [.string xn, .int .i64 1]) := hs'.new' 133 11 (by kernel_rfl)
          go_simp
          exact (HW4.out wo bt bm (ρ (.tmp 133)) (own_lots (l := l ++ [Lt.mk xn 1]) (by rw [ltCells_append]; exact h8) (by simp)) (HT.out.below (below_undrew hb))).mono fun e w' ⟨he, hb'⟩ => ⟨_, he, Any.post_vals hb rfl rfl hb'⟩
        · refine Any.owes_plain rfl fun ρ wo hs' hb hc' => ?_
          have h134 : ρ (.tmp 134) = .tuple #[.int .i64 (0), .int .i64 3] := hs'.new' 134 12 (by kernel_rfl)
          exact Any.ok_move (Any.post_val hb rfl h134)
        · refine Any.owes_plain rfl fun ρ wo hs' hb hc' => ?_
          have h121 : ρ (.tmp 121) = .tuple #[.int .i64 (0), .int .i64 3] := hs'.new' 121 13 (by kernel_rfl)
          go_simp
          exact Any.post_val hb rfl rfl
        · refine Any.owes_plain rfl fun ρ wo hs' hb hc' => ?_
          have h121 : ρ (.tmp 121) = .tuple #[.int .i64 (0), .int .i64 3] := hs'.new' 121 13 (by kernel_rfl)
          go_simp
          exact Any.post_val hb rfl rfl
        · refine Any.owes_plain rfl fun ρ wo hs' hb hc' => ?_
          have h135 : ρ (.tmp 135) = .int .i64 (0) := hs'.new' 135 14 (by kernel_rfl)
          exact Any.ok_assign (Any.post_val hb rfl h135)
        · refine Any.owes_plain rfl fun ρ wo hs' hb hc' => ?_
          have h136 : ρ (.tmp 136) = .int .i64 3 := hs'.new' 136 15 (by kernel_rfl)
          exact Any.ok_assign (Any.post_val hb rfl h136)
      · intro vals w10 hb hk ha
        have h16 := hk 16 (by kernel_rfl)
        have h17 := hk 17 (by kernel_rfl)
        have HB10 := Lib.hid (HB.out.trans (hb.mono HB.out.size))
        obtain ⟨c0, c2⟩ := HD.out w10 HB10.out
        clear hk ha hb
        simp only [Any.putAll]
        go_frame
        simp only [Nat.zero_add, Nat.reduceAdd]
        rw [h16, h17]
        clear h16 h17
        go_wp2_with fail
        go_ret
        exact ⟨rfl, HB10.out⟩
    · go_wp2_with (first
        | ((with_reducible refine (HNW.out _ HB.out).mono ?_); rintro e w4 ⟨bt, bm, rfl, ht4, hb4⟩; have HT := Lib.hid ht4; have HB := Lib.hid (HB.out.trans (hb4.mono HB.out.size)); clear ht4 hb4)
        | ((with_reducible refine (HW1.out _ _ _ HB.out HT.out).mono ?_); rintro e w5 ⟨rfl, hb5⟩; have HT := Lib.hid (HT.out.below hb5); have HB := Lib.hid (HB.out.trans (hb5.mono HB.out.size)); clear hb5)
        | ((with_reducible refine (HW2.out _ _ _ HB.out HT.out).mono ?_); rintro e w6 ⟨rfl, hb6⟩; have HT := Lib.hid (HT.out.below hb6); have HB := Lib.hid (HB.out.trans (hb6.mono HB.out.size)); clear hb6)
        | ((with_reducible refine (HW3.out _ _ _ HB.out HT.out).mono ?_); rintro e w7 ⟨rfl, hb7⟩; have HT := Lib.hid (HT.out.below hb7); have HB := Lib.hid (HB.out.trans (hb7.mono HB.out.size)); clear hb7)
        | ((with_reducible refine (HJN.out _ HB.out).mono ?_); rintro e w8 ⟨v8, rfl, ho8, hb8⟩; have HJ := Lib.hid (own_lots ho8 rfl); have HT := Lib.hid (HT.out.below hb8); have HB := Lib.hid (HB.out.trans (hb8.mono HB.out.size)); clear ho8 hb8)
        | ((with_reducible refine (HWJ.out _ _ _ _ HJ.out HT.out).mono ?_); rintro e w9 ⟨rfl, hb9⟩; have HT := Lib.hid (HT.out.below hb9); have HB := Lib.hid (HB.out.trans (hb9.mono HB.out.size)); clear hb9)
        | fail)
      obtain ⟨vl, hvl⟩ : ∃ v, v = Value.slice al l.length cl := ⟨_, rfl⟩
      rw [← hvl] at HSRC ⊢
      clear hvl
      refine Any.region_lit (fun
        | 0 => Any.val (.pointer (some ⟨bt, 0, none⟩))
        | 1 => Any.row w9.heap.size 38 2 (0) ([]) []
        | 2 => Any.val (vl)
        | 3 => Any.row w9.heap.size 38 2 (l.length) (ltCells l) [1]
        | 4 => Any.val (.slice (some ⟨b, off, none⟩) t.length ct)
        | 5 => Any.val (.int .i64 (j : Int))
        | 6 => Any.val (.pointer (some ⟨b, off + j * 4, none⟩))
        | 7 => Any.val (.pointer (some ⟨b, off + j * 4, none⟩))
        | 8 => Any.val (.string xn)
        | 9 => Any.val (.agg #[.string xn, .int .i64 1])
        | 10 => Any.made 38 1 #[.string xn, .int .i64 1]
        | 11 => Any.row w9.heap.size 38 2 (l.length + 1) (ltCells l ++ [.string xn, .int .i64 1]) [3]
        | 12 => Any.val (.tuple #[.int .i64 (0), .int .i64 3])
        | 13 => Any.val (.tuple #[.int .i64 (0), .int .i64 3])
        | 14 => Any.val (.int .i64 (0))
        | 15 => Any.val (.int .i64 3)
        | 16 => Any.val (.int .i64 (0))
        | 17 => Any.val (.int .i64 3)
        | _ => Any.idle) (by kernel_rfl) (by kernel_rfl) (by kernel_rfl) ?_ ?_ ?_
      · intro i _
        match i with
        | 0 => exact Any.lasts_val _
        | 1 => exact Any.lasts_row _ _ _ _ _ _
        | 2 => exact Any.lasts_val _
        | 3 => exact Any.lasts_row _ _ _ _ _ _
        | 4 => exact Any.lasts_val _
        | 5 => exact Any.lasts_val _
        | 6 => exact Any.lasts_val _
        | 7 => exact Any.lasts_val _
        | 8 => exact Any.lasts_val _
        | 9 => exact Any.lasts_val _
        | 10 => exact Any.lasts_made _ _ _
        | 11 => exact Any.lasts_row _ _ _ _ _ _
        | 12 => exact Any.lasts_val _
        | 13 => exact Any.lasts_val _
        | 14 => exact Any.lasts_val _
        | 15 => exact Any.lasts_val _
        | 16 => exact Any.lasts_val _
        | 17 => exact Any.lasts_val _
        | n + 18 => exact Any.lasts_idle
      · refine ⟨?_, ?_, ?_, ?_, ?_, ?_, ?_, ?_, ?_, ?_, ?_, ?_, ?_, ?_, ?_, ?_, ?_, ?_, trivial⟩
        · refine Any.owes_plain rfl fun ρ wo hs' hb hc' => ?_
          have h9 : ρ (.tmp 9) = .pointer (some ⟨bt, 0, none⟩) := hs'.old' 9 (by kernel_rfl)
          exact Any.ok_move (Any.post_val hb rfl h9)
        · refine Any.owes_plain rfl fun ρ wo hs' hb hc' => ?_
          go_simp
          exact Any.post_new hb (own_empty (show w9.heap.size ≤ wo.heap.size from hb.size)) (one_below _ _) (by intro b hb'; obtain rfl : wo.heap.size = b := Option.some.inj hb'; exact Nat.le_refl _)
        · refine Any.owes_plain rfl fun ρ wo hs' hb hc' => ?_
          have h1 : ρ (.tmp 1) = vl := hs'.old' 1 (by kernel_rfl)
          exact Any.ok_move (Any.post_val hb rfl h1)
        · refine Any.owes_plain rfl fun ρ wo hs' hb hc' => ?_
          have h124 : ρ (.tmp 124) = vl := hs'.new' 124 2 (by kernel_rfl)
          have h8 : wo.ownsRow w9.heap.size 38 2 (ρ (.tmp 123)) 0 [] := hs'.new' 123 1 (by kernel_rfl)
          have hsrc : Src wo 2 (ρ (.tmp 124)) l.length (ltCells l) := by rw [h124]; exact HSRC.out wo (HB.out.trans ((below_undrew hb).mono HB.out.size))
          refine Any.ok_append_own Tryd.underlying25 HI.out.1 HI.out.2.1 HI.out.2.2.1 HI.out.2.2.2 rfl (by decide) h8 hsrc (ltCells_one l) (by have := HL.out.1; omega) (by have := HL.out.2; omega) (show w9.heap.size ≤ wo.heap.size from hb.size) fun v' w' h1 h2 h3 => ?_
          rw [List.nil_append, Nat.zero_add] at h1
          exact Any.post_take hb h1 h2 rfl ⟨_, _, _, rfl⟩ rfl rfl (Nat.le_refl _) h3 (fun b hb => (h8.lt b hb).1)
        · refine Any.owes_plain rfl fun ρ wo hs' hb hc' => ?_
          have h0 : ρ (.tmp 0) = .slice (some ⟨b, off, none⟩) t.length ct := hs'.old' 0 (by kernel_rfl)
          exact Any.ok_move (Any.post_val hb rfl h0)
        · refine Any.owes_plain rfl fun ρ wo hs' hb hc' => ?_
          have h3 : ρ (.tmp 3) = .int .i64 (j : Int) := hs'.old' 3 (by kernel_rfl)
          exact Any.ok_move (Any.post_val hb rfl h3)
        · refine Any.owes_plain rfl fun ρ wo hs' hb hc' => ?_
          have h126 : ρ (.tmp 126) = .slice (some ⟨b, off, none⟩) t.length ct := hs'.new' 126 4 (by kernel_rfl)
          have h127 : ρ (.tmp 127) = .int .i64 (j : Int) := hs'.new' 127 5 (by kernel_rfl)
          go_simp
          exact Any.post_val hb rfl rfl
        · refine Any.owes_plain rfl fun ρ wo hs' hb hc' => ?_
          have h128 : ρ (.tmp 128) = .pointer (some ⟨b, off + j * 4, none⟩) := hs'.new' 128 6 (by kernel_rfl)
          go_simp
          exact Any.post_val hb rfl rfl
        · refine Any.owes_plain rfl fun ρ wo hs' hb hc' => ?_
          have h129 : ρ (.tmp 129) = .pointer (some ⟨b, off + j * 4, none⟩) := hs'.new' 129 7 (by kernel_rfl)
          have c0 := (HD.out wo (HB.out.trans ((below_undrew hb).mono HB.out.size))).1
          go_simp
          exact Any.post_val hb rfl rfl
        · refine Any.owes_plain rfl fun ρ wo hs' hb hc' => ?_
          have h130 : ρ (.tmp 130) = .string xn := hs'.new' 130 8 (by kernel_rfl)
          go_simp
          exact Any.post_val hb rfl rfl
        · refine Any.owes_plain rfl fun ρ wo hs' hb hc' => ?_
          have h131 : ρ (.tmp 131) = .agg #[.string xn, .int .i64 1] := hs'.new' 131 9 (by kernel_rfl)
          go_simp
          exact Any.post_new hb ⟨_, rfl, heap_alloc_new _ _⟩ (one_below _ _) (by intro b hb'; obtain rfl : wo.heap.size = b := Option.some.inj hb'; exact Nat.le_refl _)
        · refine Any.owes_plain rfl fun ρ wo hs' hb hc' => ?_
          have h8 : wo.ownsRow w9.heap.size 38 2 (ρ (.tmp 125)) (l.length) (ltCells l) := hs'.new' 125 3 (by kernel_rfl)
          obtain ⟨g, hg, hgb⟩ := hs'.new' 132 10 (by kernel_rfl)
          have hsrc : Src wo 2 (ρ (.tmp 132)) 1 [.string xn, .int .i64 1] := by rw [hg]; exact src_block hgb rfl
          refine Any.ok_append_own Tryd.underlying25 HI.out.1 HI.out.2.1 HI.out.2.2.1 HI.out.2.2.2 rfl (by decide) h8 hsrc (by simp [Value.oneCell']) HL.out.1 HL.out.2 (show w9.heap.size ≤ wo.heap.size from hb.size) fun v' w' h1 h2 h3 => ?_
          exact Any.post_take hb h1 h2 rfl ⟨_, _, _, rfl⟩ rfl rfl (Nat.le_refl _) h3 (fun b hb => (h8.lt b hb).1)
        · refine Any.owes_plain rfl fun ρ wo hs' hb hc' => ?_
          have h122 : ρ (.tmp 122) = .pointer (some ⟨bt, 0, none⟩) := hs'.new' 122 0 (by kernel_rfl)
          have hf := hs'.func 16
          have h8 : wo.ownsRow w9.heap.size 38 2 (ρ (.tmp 133)) (l.length + 1) (ltCells l ++ [.string xn, .int .i64 1]) := hs'.new' 133 11 (by kernel_rfl)
          go_simp
          exact (HW4.out wo bt bm (ρ (.tmp 133)) (own_lots (l := l ++ [Lt.mk xn 1]) (by rw [ltCells_append]; exact h8) (by simp)) (HT.out.below (below_undrew hb))).mono fun e w' ⟨he, hb'⟩ => ⟨_, he, Any.post_vals hb rfl rfl hb'⟩
        · refine Any.owes_plain rfl fun ρ wo hs' hb hc' => ?_
          have h134 : ρ (.tmp 134) = .tuple #[.int .i64 (0), .int .i64 3] := hs'.new' 134 12 (by kernel_rfl)
          exact Any.ok_move (Any.post_val hb rfl h134)
        · refine Any.owes_plain rfl fun ρ wo hs' hb hc' => ?_
          have h121 : ρ (.tmp 121) = .tuple #[.int .i64 (0), .int .i64 3] := hs'.new' 121 13 (by kernel_rfl)
          go_simp
          exact Any.post_val hb rfl rfl
        · refine Any.owes_plain rfl fun ρ wo hs' hb hc' => ?_
          have h121 : ρ (.tmp 121) = .tuple #[.int .i64 (0), .int .i64 3] := hs'.new' 121 13 (by kernel_rfl)
          go_simp
          exact Any.post_val hb rfl rfl
        · refine Any.owes_plain rfl fun ρ wo hs' hb hc' => ?_
          have h135 : ρ (.tmp 135) = .int .i64 (0) := hs'.new' 135 14 (by kernel_rfl)
          exact Any.ok_assign (Any.post_val hb rfl h135)
        · refine Any.owes_plain rfl fun ρ wo hs' hb hc' => ?_
          have h136 : ρ (.tmp 136) = .int .i64 3 := hs'.new' 136 15 (by kernel_rfl)
          exact Any.ok_assign (Any.post_val hb rfl h136)
      · intro vals w10 hb hk ha
        have h16 := hk 16 (by kernel_rfl)
        have h17 := hk 17 (by kernel_rfl)
        have HB10 := Lib.hid (HB.out.trans (hb.mono HB.out.size))
        obtain ⟨c0, c2⟩ := HD.out w10 HB10.out
        clear hk ha hb
        simp only [Any.putAll]
        go_frame
        simp only [Nat.zero_add, Nat.reduceAdd]
        rw [h16, h17]
        clear h16 h17
        go_wp2_with fail
        go_ret
        exact ⟨rfl, HB10.out⟩

  · generalize t[j] = y at *
    obtain ⟨xn, xc, xw, xv⟩ := y
    simp only at HD HW4 hgr
    have tm : (S + xw == S + xw) = true := by simp
    rcases HJC with hj | hj <;> rw [hj] at HWJ <;> clear hj
    · go_wp2_with (first
        | ((with_reducible refine (HNW.out _ HB.out).mono ?_); rintro e w4 ⟨bt, bm, rfl, ht4, hb4⟩; have HT := Lib.hid ht4; have HB := Lib.hid (HB.out.trans (hb4.mono HB.out.size)); clear ht4 hb4)
        | ((with_reducible refine (HW1.out _ _ _ HB.out HT.out).mono ?_); rintro e w5 ⟨rfl, hb5⟩; have HT := Lib.hid (HT.out.below hb5); have HB := Lib.hid (HB.out.trans (hb5.mono HB.out.size)); clear hb5)
        | ((with_reducible refine (HW2.out _ _ _ HB.out HT.out).mono ?_); rintro e w6 ⟨rfl, hb6⟩; have HT := Lib.hid (HT.out.below hb6); have HB := Lib.hid (HB.out.trans (hb6.mono HB.out.size)); clear hb6)
        | ((with_reducible refine (HW3.out _ _ _ HB.out HT.out).mono ?_); rintro e w7 ⟨rfl, hb7⟩; have HT := Lib.hid (HT.out.below hb7); have HB := Lib.hid (HB.out.trans (hb7.mono HB.out.size)); clear hb7)
        | ((with_reducible refine (HJN.out _ HB.out).mono ?_); rintro e w8 ⟨v8, rfl, ho8, hb8⟩; have HJ := Lib.hid (own_lots ho8 rfl); have HT := Lib.hid (HT.out.below hb8); have HB := Lib.hid (HB.out.trans (hb8.mono HB.out.size)); clear ho8 hb8)
        | ((with_reducible refine (HWJ.out _ _ _ _ HJ.out HT.out).mono ?_); rintro e w9 ⟨rfl, hb9⟩; have HT := Lib.hid (HT.out.below hb9); have HB := Lib.hid (HB.out.trans (hb9.mono HB.out.size)); clear hb9)
        | fail)
      obtain ⟨vl, hvl⟩ : ∃ v, v = Value.slice al l.length cl := ⟨_, rfl⟩
      rw [← hvl] at HSRC ⊢
      clear hvl
      refine Any.region_lit (fun
        | 0 => Any.val (.pointer (some ⟨bt, 0, none⟩))
        | 1 => Any.row w9.heap.size 38 2 (0) ([]) []
        | 2 => Any.val (vl)
        | 3 => Any.row w9.heap.size 38 2 (l.length) (ltCells l) [1]
        | 4 => Any.val (.slice (some ⟨b, off, none⟩) t.length ct)
        | 5 => Any.val (.int .i64 (j : Int))
        | 6 => Any.val (.pointer (some ⟨b, off + j * 4, none⟩))
        | 7 => Any.val (.pointer (some ⟨b, off + j * 4, none⟩))
        | 8 => Any.val (.string xn)
        | 9 => Any.val (.agg #[.string xn, .int .i64 1])
        | 10 => Any.made 38 1 #[.string xn, .int .i64 1]
        | 11 => Any.row w9.heap.size 38 2 (l.length + 1) (ltCells l ++ [.string xn, .int .i64 1]) [3]
        | 12 => Any.val (.tuple #[.int .i64 (S + xw), .int .i64 0])
        | 13 => Any.val (.tuple #[.int .i64 (S + xw), .int .i64 0])
        | 14 => Any.val (.int .i64 (S + xw))
        | 15 => Any.val (.int .i64 0)
        | 16 => Any.val (.int .i64 (S + xw))
        | 17 => Any.val (.int .i64 0)
        | _ => Any.idle) (by kernel_rfl) (by kernel_rfl) (by kernel_rfl) ?_ ?_ ?_
      · intro i _
        match i with
        | 0 => exact Any.lasts_val _
        | 1 => exact Any.lasts_row _ _ _ _ _ _
        | 2 => exact Any.lasts_val _
        | 3 => exact Any.lasts_row _ _ _ _ _ _
        | 4 => exact Any.lasts_val _
        | 5 => exact Any.lasts_val _
        | 6 => exact Any.lasts_val _
        | 7 => exact Any.lasts_val _
        | 8 => exact Any.lasts_val _
        | 9 => exact Any.lasts_val _
        | 10 => exact Any.lasts_made _ _ _
        | 11 => exact Any.lasts_row _ _ _ _ _ _
        | 12 => exact Any.lasts_val _
        | 13 => exact Any.lasts_val _
        | 14 => exact Any.lasts_val _
        | 15 => exact Any.lasts_val _
        | 16 => exact Any.lasts_val _
        | 17 => exact Any.lasts_val _
        | n + 18 => exact Any.lasts_idle
      · refine ⟨?_, ?_, ?_, ?_, ?_, ?_, ?_, ?_, ?_, ?_, ?_, ?_, ?_, ?_, ?_, ?_, ?_, ?_, trivial⟩
        · refine Any.owes_plain rfl fun ρ wo hs' hb hc' => ?_
          have h9 : ρ (.tmp 9) = .pointer (some ⟨bt, 0, none⟩) := hs'.old' 9 (by kernel_rfl)
          exact Any.ok_move (Any.post_val hb rfl h9)
        · refine Any.owes_plain rfl fun ρ wo hs' hb hc' => ?_
          go_simp
          exact Any.post_new hb (own_empty (show w9.heap.size ≤ wo.heap.size from hb.size)) (one_below _ _) (by intro b hb'; obtain rfl : wo.heap.size = b := Option.some.inj hb'; exact Nat.le_refl _)
        · refine Any.owes_plain rfl fun ρ wo hs' hb hc' => ?_
          have h1 : ρ (.tmp 1) = vl := hs'.old' 1 (by kernel_rfl)
          exact Any.ok_move (Any.post_val hb rfl h1)
        · refine Any.owes_plain rfl fun ρ wo hs' hb hc' => ?_
          have h124 : ρ (.tmp 124) = vl := hs'.new' 124 2 (by kernel_rfl)
          have h8 : wo.ownsRow w9.heap.size 38 2 (ρ (.tmp 123)) 0 [] := hs'.new' 123 1 (by kernel_rfl)
          have hsrc : Src wo 2 (ρ (.tmp 124)) l.length (ltCells l) := by rw [h124]; exact HSRC.out wo (HB.out.trans ((below_undrew hb).mono HB.out.size))
          refine Any.ok_append_own Tryd.underlying25 HI.out.1 HI.out.2.1 HI.out.2.2.1 HI.out.2.2.2 rfl (by decide) h8 hsrc (ltCells_one l) (by have := HL.out.1; omega) (by have := HL.out.2; omega) (show w9.heap.size ≤ wo.heap.size from hb.size) fun v' w' h1 h2 h3 => ?_
          rw [List.nil_append, Nat.zero_add] at h1
          exact Any.post_take hb h1 h2 rfl ⟨_, _, _, rfl⟩ rfl rfl (Nat.le_refl _) h3 (fun b hb => (h8.lt b hb).1)
        · refine Any.owes_plain rfl fun ρ wo hs' hb hc' => ?_
          have h0 : ρ (.tmp 0) = .slice (some ⟨b, off, none⟩) t.length ct := hs'.old' 0 (by kernel_rfl)
          exact Any.ok_move (Any.post_val hb rfl h0)
        · refine Any.owes_plain rfl fun ρ wo hs' hb hc' => ?_
          have h3 : ρ (.tmp 3) = .int .i64 (j : Int) := hs'.old' 3 (by kernel_rfl)
          exact Any.ok_move (Any.post_val hb rfl h3)
        · refine Any.owes_plain rfl fun ρ wo hs' hb hc' => ?_
          have h126 : ρ (.tmp 126) = .slice (some ⟨b, off, none⟩) t.length ct := hs'.new' 126 4 (by kernel_rfl)
          have h127 : ρ (.tmp 127) = .int .i64 (j : Int) := hs'.new' 127 5 (by kernel_rfl)
          go_simp
          exact Any.post_val hb rfl rfl
        · refine Any.owes_plain rfl fun ρ wo hs' hb hc' => ?_
          have h128 : ρ (.tmp 128) = .pointer (some ⟨b, off + j * 4, none⟩) := hs'.new' 128 6 (by kernel_rfl)
          go_simp
          exact Any.post_val hb rfl rfl
        · refine Any.owes_plain rfl fun ρ wo hs' hb hc' => ?_
          have h129 : ρ (.tmp 129) = .pointer (some ⟨b, off + j * 4, none⟩) := hs'.new' 129 7 (by kernel_rfl)
          have c0 := (HD.out wo (HB.out.trans ((below_undrew hb).mono HB.out.size))).1
          go_simp
          exact Any.post_val hb rfl rfl
        · refine Any.owes_plain rfl fun ρ wo hs' hb hc' => ?_
          have h130 : ρ (.tmp 130) = .string xn := hs'.new' 130 8 (by kernel_rfl)
          go_simp
          exact Any.post_val hb rfl rfl
        · refine Any.owes_plain rfl fun ρ wo hs' hb hc' => ?_
          have h131 : ρ (.tmp 131) = .agg #[.string xn, .int .i64 1] := hs'.new' 131 9 (by kernel_rfl)
          go_simp
          exact Any.post_new hb ⟨_, rfl, heap_alloc_new _ _⟩ (one_below _ _) (by intro b hb'; obtain rfl : wo.heap.size = b := Option.some.inj hb'; exact Nat.le_refl _)
        · refine Any.owes_plain rfl fun ρ wo hs' hb hc' => ?_
          have h8 : wo.ownsRow w9.heap.size 38 2 (ρ (.tmp 125)) (l.length) (ltCells l) := hs'.new' 125 3 (by kernel_rfl)
          obtain ⟨g, hg, hgb⟩ := hs'.new' 132 10 (by kernel_rfl)
          have hsrc : Src wo 2 (ρ (.tmp 132)) 1 [.string xn, .int .i64 1] := by rw [hg]; exact src_block hgb rfl
          refine Any.ok_append_own Tryd.underlying25 HI.out.1 HI.out.2.1 HI.out.2.2.1 HI.out.2.2.2 rfl (by decide) h8 hsrc (by simp [Value.oneCell']) HL.out.1 HL.out.2 (show w9.heap.size ≤ wo.heap.size from hb.size) fun v' w' h1 h2 h3 => ?_
          exact Any.post_take hb h1 h2 rfl ⟨_, _, _, rfl⟩ rfl rfl (Nat.le_refl _) h3 (fun b hb => (h8.lt b hb).1)
        · refine Any.owes_plain rfl fun ρ wo hs' hb hc' => ?_
          have h122 : ρ (.tmp 122) = .pointer (some ⟨bt, 0, none⟩) := hs'.new' 122 0 (by kernel_rfl)
          have hf := hs'.func 16
          have h8 : wo.ownsRow w9.heap.size 38 2 (ρ (.tmp 133)) (l.length + 1) (ltCells l ++ [.string xn, .int .i64 1]) := hs'.new' 133 11 (by kernel_rfl)
          go_simp
          exact (HW4.out wo bt bm (ρ (.tmp 133)) (own_lots (l := l ++ [Lt.mk xn 1]) (by rw [ltCells_append]; exact h8) (by simp)) (HT.out.below (below_undrew hb))).mono fun e w' ⟨he, hb'⟩ => ⟨_, he, Any.post_vals hb rfl rfl hb'⟩
        · refine Any.owes_plain rfl fun ρ wo hs' hb hc' => ?_
          have h134 : ρ (.tmp 134) = .tuple #[.int .i64 (S + xw), .int .i64 0] := hs'.new' 134 12 (by kernel_rfl)
          exact Any.ok_move (Any.post_val hb rfl h134)
        · refine Any.owes_plain rfl fun ρ wo hs' hb hc' => ?_
          have h121 : ρ (.tmp 121) = .tuple #[.int .i64 (S + xw), .int .i64 0] := hs'.new' 121 13 (by kernel_rfl)
          go_simp
          exact Any.post_val hb rfl rfl
        · refine Any.owes_plain rfl fun ρ wo hs' hb hc' => ?_
          have h121 : ρ (.tmp 121) = .tuple #[.int .i64 (S + xw), .int .i64 0] := hs'.new' 121 13 (by kernel_rfl)
          go_simp
          exact Any.post_val hb rfl rfl
        · refine Any.owes_plain rfl fun ρ wo hs' hb hc' => ?_
          have h135 : ρ (.tmp 135) = .int .i64 (S + xw) := hs'.new' 135 14 (by kernel_rfl)
          exact Any.ok_assign (Any.post_val hb rfl h135)
        · refine Any.owes_plain rfl fun ρ wo hs' hb hc' => ?_
          have h136 : ρ (.tmp 136) = .int .i64 0 := hs'.new' 136 15 (by kernel_rfl)
          exact Any.ok_assign (Any.post_val hb rfl h136)
      · intro vals w10 hb hk ha
        have h16 := hk 16 (by kernel_rfl)
        have h17 := hk 17 (by kernel_rfl)
        have HB10 := Lib.hid (HB.out.trans (hb.mono HB.out.size))
        obtain ⟨c0, c2⟩ := HD.out w10 HB10.out
        clear hk ha hb
        simp only [Any.putAll]
        go_frame
        simp only [Nat.zero_add, Nat.reduceAdd]
        rw [h16, h17]
        clear h16 h17
        go_wp2_with fail
        go_ret
        exact ⟨rfl, HB10.out⟩
    · go_wp2_with (first
        | ((with_reducible refine (HNW.out _ HB.out).mono ?_); rintro e w4 ⟨bt, bm, rfl, ht4, hb4⟩; have HT := Lib.hid ht4; have HB := Lib.hid (HB.out.trans (hb4.mono HB.out.size)); clear ht4 hb4)
        | ((with_reducible refine (HW1.out _ _ _ HB.out HT.out).mono ?_); rintro e w5 ⟨rfl, hb5⟩; have HT := Lib.hid (HT.out.below hb5); have HB := Lib.hid (HB.out.trans (hb5.mono HB.out.size)); clear hb5)
        | ((with_reducible refine (HW2.out _ _ _ HB.out HT.out).mono ?_); rintro e w6 ⟨rfl, hb6⟩; have HT := Lib.hid (HT.out.below hb6); have HB := Lib.hid (HB.out.trans (hb6.mono HB.out.size)); clear hb6)
        | ((with_reducible refine (HW3.out _ _ _ HB.out HT.out).mono ?_); rintro e w7 ⟨rfl, hb7⟩; have HT := Lib.hid (HT.out.below hb7); have HB := Lib.hid (HB.out.trans (hb7.mono HB.out.size)); clear hb7)
        | ((with_reducible refine (HJN.out _ HB.out).mono ?_); rintro e w8 ⟨v8, rfl, ho8, hb8⟩; have HJ := Lib.hid (own_lots ho8 rfl); have HT := Lib.hid (HT.out.below hb8); have HB := Lib.hid (HB.out.trans (hb8.mono HB.out.size)); clear ho8 hb8)
        | ((with_reducible refine (HWJ.out _ _ _ _ HJ.out HT.out).mono ?_); rintro e w9 ⟨rfl, hb9⟩; have HT := Lib.hid (HT.out.below hb9); have HB := Lib.hid (HB.out.trans (hb9.mono HB.out.size)); clear hb9)
        | fail)
      obtain ⟨vl, hvl⟩ : ∃ v, v = Value.slice al l.length cl := ⟨_, rfl⟩
      rw [← hvl] at HSRC ⊢
      clear hvl
      refine Any.region_lit (fun
        | 0 => Any.val (.pointer (some ⟨bt, 0, none⟩))
        | 1 => Any.row w9.heap.size 38 2 (0) ([]) []
        | 2 => Any.val (vl)
        | 3 => Any.row w9.heap.size 38 2 (l.length) (ltCells l) [1]
        | 4 => Any.val (.slice (some ⟨b, off, none⟩) t.length ct)
        | 5 => Any.val (.int .i64 (j : Int))
        | 6 => Any.val (.pointer (some ⟨b, off + j * 4, none⟩))
        | 7 => Any.val (.pointer (some ⟨b, off + j * 4, none⟩))
        | 8 => Any.val (.string xn)
        | 9 => Any.val (.agg #[.string xn, .int .i64 1])
        | 10 => Any.made 38 1 #[.string xn, .int .i64 1]
        | 11 => Any.row w9.heap.size 38 2 (l.length + 1) (ltCells l ++ [.string xn, .int .i64 1]) [3]
        | 12 => Any.val (.tuple #[.int .i64 (S + xw), .int .i64 0])
        | 13 => Any.val (.tuple #[.int .i64 (S + xw), .int .i64 0])
        | 14 => Any.val (.int .i64 (S + xw))
        | 15 => Any.val (.int .i64 0)
        | 16 => Any.val (.int .i64 (S + xw))
        | 17 => Any.val (.int .i64 0)
        | _ => Any.idle) (by kernel_rfl) (by kernel_rfl) (by kernel_rfl) ?_ ?_ ?_
      · intro i _
        match i with
        | 0 => exact Any.lasts_val _
        | 1 => exact Any.lasts_row _ _ _ _ _ _
        | 2 => exact Any.lasts_val _
        | 3 => exact Any.lasts_row _ _ _ _ _ _
        | 4 => exact Any.lasts_val _
        | 5 => exact Any.lasts_val _
        | 6 => exact Any.lasts_val _
        | 7 => exact Any.lasts_val _
        | 8 => exact Any.lasts_val _
        | 9 => exact Any.lasts_val _
        | 10 => exact Any.lasts_made _ _ _
        | 11 => exact Any.lasts_row _ _ _ _ _ _
        | 12 => exact Any.lasts_val _
        | 13 => exact Any.lasts_val _
        | 14 => exact Any.lasts_val _
        | 15 => exact Any.lasts_val _
        | 16 => exact Any.lasts_val _
        | 17 => exact Any.lasts_val _
        | n + 18 => exact Any.lasts_idle
      · refine ⟨?_, ?_, ?_, ?_, ?_, ?_, ?_, ?_, ?_, ?_, ?_, ?_, ?_, ?_, ?_, ?_, ?_, ?_, trivial⟩
        · refine Any.owes_plain rfl fun ρ wo hs' hb hc' => ?_
          have h9 : ρ (.tmp 9) = .pointer (some ⟨bt, 0, none⟩) := hs'.old' 9 (by kernel_rfl)
          exact Any.ok_move (Any.post_val hb rfl h9)
        · refine Any.owes_plain rfl fun ρ wo hs' hb hc' => ?_
          go_simp
          exact Any.post_new hb (own_empty (show w9.heap.size ≤ wo.heap.size from hb.size)) (one_below _ _) (by intro b hb'; obtain rfl : wo.heap.size = b := Option.some.inj hb'; exact Nat.le_refl _)
        · refine Any.owes_plain rfl fun ρ wo hs' hb hc' => ?_
          have h1 : ρ (.tmp 1) = vl := hs'.old' 1 (by kernel_rfl)
          exact Any.ok_move (Any.post_val hb rfl h1)
        · refine Any.owes_plain rfl fun ρ wo hs' hb hc' => ?_
          have h124 : ρ (.tmp 124) = vl := hs'.new' 124 2 (by kernel_rfl)
          have h8 : wo.ownsRow w9.heap.size 38 2 (ρ (.tmp 123)) 0 [] := hs'.new' 123 1 (by kernel_rfl)
          have hsrc : Src wo 2 (ρ (.tmp 124)) l.length (ltCells l) := by rw [h124]; exact HSRC.out wo (HB.out.trans ((below_undrew hb).mono HB.out.size))
          refine Any.ok_append_own Tryd.underlying25 HI.out.1 HI.out.2.1 HI.out.2.2.1 HI.out.2.2.2 rfl (by decide) h8 hsrc (ltCells_one l) (by have := HL.out.1; omega) (by have := HL.out.2; omega) (show w9.heap.size ≤ wo.heap.size from hb.size) fun v' w' h1 h2 h3 => ?_
          rw [List.nil_append, Nat.zero_add] at h1
          exact Any.post_take hb h1 h2 rfl ⟨_, _, _, rfl⟩ rfl rfl (Nat.le_refl _) h3 (fun b hb => (h8.lt b hb).1)
        · refine Any.owes_plain rfl fun ρ wo hs' hb hc' => ?_
          have h0 : ρ (.tmp 0) = .slice (some ⟨b, off, none⟩) t.length ct := hs'.old' 0 (by kernel_rfl)
          exact Any.ok_move (Any.post_val hb rfl h0)
        · refine Any.owes_plain rfl fun ρ wo hs' hb hc' => ?_
          have h3 : ρ (.tmp 3) = .int .i64 (j : Int) := hs'.old' 3 (by kernel_rfl)
          exact Any.ok_move (Any.post_val hb rfl h3)
        · refine Any.owes_plain rfl fun ρ wo hs' hb hc' => ?_
          have h126 : ρ (.tmp 126) = .slice (some ⟨b, off, none⟩) t.length ct := hs'.new' 126 4 (by kernel_rfl)
          have h127 : ρ (.tmp 127) = .int .i64 (j : Int) := hs'.new' 127 5 (by kernel_rfl)
          go_simp
          exact Any.post_val hb rfl rfl
        · refine Any.owes_plain rfl fun ρ wo hs' hb hc' => ?_
          have h128 : ρ (.tmp 128) = .pointer (some ⟨b, off + j * 4, none⟩) := hs'.new' 128 6 (by kernel_rfl)
          go_simp
          exact Any.post_val hb rfl rfl
        · refine Any.owes_plain rfl fun ρ wo hs' hb hc' => ?_
          have h129 : ρ (.tmp 129) = .pointer (some ⟨b, off + j * 4, none⟩) := hs'.new' 129 7 (by kernel_rfl)
          have c0 := (HD.out wo (HB.out.trans ((below_undrew hb).mono HB.out.size))).1
          go_simp
          exact Any.post_val hb rfl rfl
        · refine Any.owes_plain rfl fun ρ wo hs' hb hc' => ?_
          have h130 : ρ (.tmp 130) = .string xn := hs'.new' 130 8 (by kernel_rfl)
          go_simp
          exact Any.post_val hb rfl rfl
        · refine Any.owes_plain rfl fun ρ wo hs' hb hc' => ?_
          have h131 : ρ (.tmp 131) = .agg #[.string xn, .int .i64 1] := hs'.new' 131 9 (by kernel_rfl)
          go_simp
          exact Any.post_new hb ⟨_, rfl, heap_alloc_new _ _⟩ (one_below _ _) (by intro b hb'; obtain rfl : wo.heap.size = b := Option.some.inj hb'; exact Nat.le_refl _)
        · refine Any.owes_plain rfl fun ρ wo hs' hb hc' => ?_
          have h8 : wo.ownsRow w9.heap.size 38 2 (ρ (.tmp 125)) (l.length) (ltCells l) := hs'.new' 125 3 (by kernel_rfl)
          obtain ⟨g, hg, hgb⟩ := hs'.new' 132 10 (by kernel_rfl)
          have hsrc : Src wo 2 (ρ (.tmp 132)) 1 [.string xn, .int .i64 1] := by rw [hg]; exact src_block hgb rfl
          refine Any.ok_append_own Tryd.underlying25 HI.out.1 HI.out.2.1 HI.out.2.2.1 HI.out.2.2.2 rfl (by decide) h8 hsrc (by simp [Value.oneCell']) HL.out.1 HL.out.2 (show w9.heap.size ≤ wo.heap.size from hb.size) fun v' w' h1 h2 h3 => ?_
          exact Any.post_take hb h1 h2 rfl ⟨_, _, _, rfl⟩ rfl rfl (Nat.le_refl _) h3 (fun b hb => (h8.lt b hb).1)
        · refine Any.owes_plain rfl fun ρ wo hs' hb hc' => ?_
          have h122 : ρ (.tmp 122) = .pointer (some ⟨bt, 0, none⟩) := hs'.new' 122 0 (by kernel_rfl)
          have hf := hs'.func 16
          have h8 : wo.ownsRow w9.heap.size 38 2 (ρ (.tmp 133)) (l.length + 1) (ltCells l ++ [.string xn, .int .i64 1]) := hs'.new' 133 11 (by kernel_rfl)
          go_simp
          exact (HW4.out wo bt bm (ρ (.tmp 133)) (own_lots (l := l ++ [Lt.mk xn 1]) (by rw [ltCells_append]; exact h8) (by simp)) (HT.out.below (below_undrew hb))).mono fun e w' ⟨he, hb'⟩ => ⟨_, he, Any.post_vals hb rfl rfl hb'⟩
        · refine Any.owes_plain rfl fun ρ wo hs' hb hc' => ?_
          have h134 : ρ (.tmp 134) = .tuple #[.int .i64 (S + xw), .int .i64 0] := hs'.new' 134 12 (by kernel_rfl)
          exact Any.ok_move (Any.post_val hb rfl h134)
        · refine Any.owes_plain rfl fun ρ wo hs' hb hc' => ?_
          have h121 : ρ (.tmp 121) = .tuple #[.int .i64 (S + xw), .int .i64 0] := hs'.new' 121 13 (by kernel_rfl)
          go_simp
          exact Any.post_val hb rfl rfl
        · refine Any.owes_plain rfl fun ρ wo hs' hb hc' => ?_
          have h121 : ρ (.tmp 121) = .tuple #[.int .i64 (S + xw), .int .i64 0] := hs'.new' 121 13 (by kernel_rfl)
          go_simp
          exact Any.post_val hb rfl rfl
        · refine Any.owes_plain rfl fun ρ wo hs' hb hc' => ?_
          have h135 : ρ (.tmp 135) = .int .i64 (S + xw) := hs'.new' 135 14 (by kernel_rfl)
          exact Any.ok_assign (Any.post_val hb rfl h135)
        · refine Any.owes_plain rfl fun ρ wo hs' hb hc' => ?_
          have h136 : ρ (.tmp 136) = .int .i64 0 := hs'.new' 136 15 (by kernel_rfl)
          exact Any.ok_assign (Any.post_val hb rfl h136)
      · intro vals w10 hb hk ha
        have h16 := hk 16 (by kernel_rfl)
        have h17 := hk 17 (by kernel_rfl)
        have HB10 := Lib.hid (HB.out.trans (hb.mono HB.out.size))
        obtain ⟨c0, c2⟩ := HD.out w10 HB10.out
        clear hk ha hb
        simp only [Any.putAll]
        go_frame
        simp only [Nat.zero_add, Nat.reduceAdd]
        rw [h16, h17]
        clear h16 h17
        go_wp2_with fail
        go_ret
        exact ⟨rfl, HB10.out⟩

theorem lifted (os : Os) (started : os.Started) (H : Type) (enc : TypeId × Value → H) :
    ReturnsInHanded {} Tryd.checked os 4 .any (fun w args => (Rows.goodsWeighedSpec.pre enc Tryd.prog Tryd.f4 [] false w args ∧ laidMetH Tryd.prog laidA w) ∧ sizedMet enc Tryd.prog Tryd.f4 (OpenSpec.ofChange Rows.goodsWeighedSpec) false w args) (Rows.goodsWeighedSpec.post enc Tryd.prog Tryd.f4 false true false false) := by
  refine law_liftedD os started (by kernel_rfl) Tryd.func4
    (ChangeSpec.witness_shaped (enc := enc) (C := Tryd.checked) (os := os) (X := fun w _ => laidMetH Tryd.prog laidA w) false (World.doorLaid Tryd.prog 400 os) #[.slice none 0 0, .slice none 0 0, .int .i64 0, .int .i64 0] 8 rfl (World.shaped_of_RefB (by kernel_rfl) (by kernel_rfl)) (by kernel_rfl) (by kernel_rfl) (by kernel_rfl) (door_met os _))
    (by kernel_rfl) rfl rfl ?_ ?_
  · intro vs ds W p hA
    rw [Tryd.params4] at hA
    obtain ⟨v0, vs0, d0, ds0, p0, q0, rfl, rfl, rfl, h0, r0⟩ := trodAll_cons hA
    obtain ⟨v1, vs1, d1, ds1, p1, q1, rfl, rfl, rfl, h1, r1⟩ := trodAll_cons r0
    obtain ⟨v2, vs2, d2, ds2, p2, q2, rfl, rfl, rfl, h2, r2⟩ := trodAll_cons r1
    obtain ⟨v3, vs3, d3, ds3, p3, q3, rfl, rfl, rfl, h3, r3⟩ := trodAll_cons r2
    obtain ⟨rfl, rfl, rfl⟩ := trodAll_nil r3
    rfl
  · intro W base args ds p hap hval hA
    rw [Tryd.params4] at hA hval
    obtain ⟨v0, vs0, d0, ds0, p0, q0, hargs, rfl, rfl, h0, r0⟩ := trodAll_cons hA
    obtain ⟨v1, vs1, d1, ds1, p1, q1, rfl, rfl, rfl, h1, r1⟩ := trodAll_cons r0
    obtain ⟨v2, vs2, d2, ds2, p2, q2, rfl, rfl, rfl, h2, r2⟩ := trodAll_cons r1
    obtain ⟨v3, vs3, d3, ds3, p3, q3, rfl, rfl, rfl, h3, r3⟩ := trodAll_cons r2
    obtain ⟨rfl, rfl, rfl⟩ := trodAll_nil r3
    obtain rfl : args = #[v0, v1, v2, v3] := by cases args; simp_all
    obtain ⟨l0, hs0, hf0⟩ := open_goods (hval 0 24 v0 rfl rfl) h0
    obtain ⟨l1, hs1, hf1⟩ := open_lots (hval 1 25 v1 rfl rfl) h1
    obtain ⟨a2, rfl, rfl, rfl, w2⟩ := open_int Tryd.underlying3 (hval 2 3 v2 rfl rfl) h2
    obtain ⟨a3, rfl, rfl, rfl, w3⟩ := open_int Tryd.underlying3 (hval 3 3 v3 rfl rfl) h3
    exact walk W hap l0 v0 hs0 hf0 l1 v1 hs1 hf1 a2 w2 a3 w3

theorem over : Rows.goodsWeighedRow.holds Tryd.pinned (OpenSpec.ofChange Rows.goodsWeighedSpec) :=
  OpenClaim.holds_of_wide 4 Tryd.f4 rfl rfl rfl rfl rfl rfl rfl ⟨rfl, rfl, rfl, rfl, rfl⟩ rfl rfl rfl rfl rfl (by kernel_rfl) Tryd.func4 (by kernel_rfl)
    (of_decide_eq_true (by kernel_rfl)) (by unfold Func.isWrapper; rw [if_neg (by decide +kernel)]; exact ⟨rfl, rfl⟩)
    (fun os started H enc _ => lifted os started H enc)

/-- The statement. -/
theorem proved : Rows.GoodsWeighedCardSaid :=
  Claim7.holds_tied_plain_at .later [] [.data] true _ false
    over (fun _ h => by cases h) (by kernel_rfl) (fun _ h => by cases h) goodsWeighed_row_tie rfl ⟨rfl, rfl⟩ (by kernel_rfl) rfl
    (fun f fn hf hfn => by
      obtain rfl : f = 4 := Option.some.inj (hf.symm.trans (by kernel_rfl))
      obtain rfl : fn = Tryd.f4 := (Option.some.inj (Tryd.func4.symm.trans hfn)).symm
      exact ⟨by kernel_rfl, fun j t ht => by
        have hall : (Tryd.f4.params.toList.all fun u => !Tryd.prog.wantsStandIn u) = true := by kernel_rfl
        have hm : t ∈ Tryd.f4.params.toList := by simpa using Array.mem_of_getElem? ht
        exact (show Tryd.prog.wantsStandIn t = false by simpa using List.all_eq_true.1 hall t hm)⟩)
    (by kernel_rfl)
#print axioms proved
end Go.Proofs.YtogkggmaibeboaaDoor.goodsWeighed
