/- Lots that may lie together may in each part; of both parts the classes are those of all, and whoever lies apart in one part does so in all. No condition. -/
import Derived.Test.YtogkggmaibeboaaDoorAwake11
import Derived.Test.YtogkggmaibeboaaDoorFew11
import Derived.Test.YtogkggmaibeboaaDoorCut
import Derived.Test.YtogkggmaibeboaaDoorSeen11
import Derived.Test.YtogkggmaibeboaaDoorLawD11
import Derived.Deep.CutRange
namespace Go.Proofs.YtogkggmaibeboaaDoor.goodsParts
open Go.ChangeShapes Go.WideShapes Go.ChangeAt Go.RowKit Go Sc
set_option maxRecDepth 100000

set_option maxHeartbeats 16000000 in
theorem walk (w : World) (hap : ApT w) (t : List Gd) (vt : Value) (hst : Sl w 4 vt (t.map Gd.row)) (hft : ∀ g ∈ t, g.fit) (l : List Lt) (vl : Value) (hsl : Sl w 2 vl (l.map Lt.row)) (_ : ∀ x ∈ l, x.fit)
    (cut : Int) (_ : (Lit.int .i64 cut).wf = true) :
    Calls Tryd.prog 8 #[vt, vl, .int .i64 cut] w (RetB w true) := by
  have HAW := Lib.hid (awake_any w hap)
  have HAP := Lib.hid hap
  have HFT := Lib.hid (fun W (hW : Below w.heap.size w W) => few_any t vt W (hst.below hW (Nat.le_refl _)))
  have HFL := Lib.hid (fun W (hW : Below w.heap.size w W) => refFew_any l vl W (hsl.below hW (Nat.le_refl _)))
  obtain ⟨a, ct, rfl⟩ : ∃ a c, vt = .slice a t.length c := by simpa using hst.shape
  obtain ⟨al, cl, rfl⟩ : ∃ a c, vl = .slice a l.length c := by simpa using hsl.shape
  have HS := Lib.hid hst
  have HSL := Lib.hid hsl
  have HF := Lib.hid hft
  clear hap hst hsl hft
  go_enter Tryd.func8, Tryd.ntmps8
  go_wp2_with (first
    | ((with_reducible refine HAW.out.mono ?_); rintro e w1 ⟨rfl, hb1⟩; have HB := Lib.hid hb1; clear hb1)
    | fail)
  refine (HFT.out _ HB.out).mono ?_
  rintro e w2 ⟨b, rfl, hb, hb2⟩
  have HB := Lib.hid (HB.out.trans (hb2.mono HB.out.size))
  clear hb2
  cases b with
  | false =>
    clear hb
    go_wp2_with fail
    go_ret
    exact ⟨rfl, HB.out⟩
  | true =>
  have HTL : Hid (t.length ≤ 41) := Lib.hid (hb rfl)
  clear hb
  go_wp2_with fail
  refine (HFL.out _ HB.out).mono ?_
  rintro e w3 ⟨b, rfl, hb, hb3⟩
  have HB := Lib.hid (HB.out.trans (hb3.mono HB.out.size))
  clear hb3
  cases b with
  | false =>
    clear hb
    go_wp2_with fail
    go_ret
    exact ⟨rfl, HB.out⟩
  | true =>
  have hll : l.length ≤ 41 := (hb rfl).len
  clear hb
  by_cases hc0 : cut < 0
  · have t1 : decide (cut < 0) = true := decide_eq_true hc0
    clear hc0
    go_wp2_with fail
    go_ret
    exact ⟨rfl, HB.out⟩
  have t1 : decide (cut < 0) = false := decide_eq_false hc0
  by_cases hc1 : (l.length : Int) < cut
  · have t2 : decide ((l.length : Int) < cut) = true := decide_eq_true hc1
    clear hc0 hc1
    go_wp2_with fail
    go_ret
    exact ⟨rfl, HB.out⟩
  have t2 : decide ((l.length : Int) < cut) = false := decide_eq_false hc1
  obtain ⟨k, rfl⟩ : ∃ k : Nat, cut = (k : Int) := ⟨cut.toNat, by omega⟩
  have hk : k ≤ l.length := by omega
  have t3 : decide (l.length < k) = false := decide_eq_false (by omega)
  clear hc0 hc1
  have HSB := Lib.hid (fun W (hW : Below w.heap.size w W) => HS.out.below hW (Nat.le_refl _))
  by_cases h0 : tabC t = 0
  rotate_left
  · have HNW := Lib.hid (fun W (hW : Below w.heap.size w W) => (newG_any t _ W (HSB.out W hW) (by have := HTL.out; omega) HF.out).mono fun e w' h => newG_bad h h0)
    obtain ⟨q, hq⟩ : ∃ q, q = tabC t := ⟨_, rfl⟩
    rw [← hq] at HNW h0
    have tq : (q != 0) = true := by simp [h0]
    clear h0 hq hk
    go_wp2_with (first
      | ((with_reducible refine (HNW.out _ HB.out).mono ?_); rintro e w4 ⟨rfl, hb4⟩; have HB := Lib.hid (HB.out.trans (hb4.mono HB.out.size)); clear hb4)
      | fail)
    all_goals
      go_ret
      exact ⟨rfl, HB.out⟩
  have hok := tabC_ok h0
  have HNW := Lib.hid (fun W (hW : Below w.heap.size w W) => (newG_any t _ W (HSB.out W hW) (by have := HTL.out; omega) HF.out).mono fun e w' h => newG_ok h h0)
  have HK := Lib.hid hk
  have hcap := (Sl.take (m := k) HSL.out (by simpa using hk)).1
  obtain ⟨i0, hi, hz, hsz, hby⟩ := info_parts infoLt
  have QT : Hid (∀ w, (Instr.slice 25 (.slice al l.length cl) none (some (.int .i64 (k : Int))) none).run Tryd.prog w = .ok (.slice al k cl) w) := Lib.hid fun w => Any.run_slice_to Tryd.underlying25 hi al _ cl k hcap
  have QF : Hid (∀ w, (Instr.slice 25 (.slice al l.length cl) (some (.int .i64 (k : Int))) none none).run Tryd.prog w = .ok (cutV al l.length cl k 2) w) := Lib.hid fun w => run_slice_from Tryd.underlying25 hi hsz al _ cl k hk
  have HP1 := Lib.hid (fun W (hW : Below w.heap.size w W) => (by
    rw [List.map_take]
    exact (Sl.take (HSL.out.below hW (Nat.le_refl _)) (by simpa using HK.out)).2 : Sl W 2 (.slice al k cl) ((l.take k).map Lt.row)))
  have HP2 := Lib.hid (fun W (hW : Below w.heap.size w W) => (by
    rw [List.map_drop]
    exact Sl.drop (HSL.out.below hW (Nat.le_refl _)) (by simpa using HK.out) : Sl W 2 (cutV al l.length cl k 2) ((l.drop k).map Lt.row)))
  have HTA := Lib.hid (fun W (bt bm : Nat) (hW : Below w.heap.size w W) (h : Tab W bt bm t) => together_any t l bt bm _ W (HAP.out.below hW) (HSL.out.below hW (Nat.le_refl _)) h hok.2.1 hok.1)
  have HTP := Lib.hid (fun W (bt bm : Nat) (hW : Below w.heap.size w W) (h : Tab W bt bm t) => together_any t (l.take k) bt bm _ W (HAP.out.below hW) (HP1.out W hW) h hok.2.1 hok.1)
  have HTQ := Lib.hid (fun W (bt bm : Nat) (hW : Below w.heap.size w W) (h : Tab W bt bm t) => together_any t (l.drop k) bt bm _ W (HAP.out.below hW) (HP2.out W hW) h hok.2.1 hok.1)
  have HCL := Lib.hid (fun W (bt bm : Nat) (hW : Below w.heap.size w W) (h : Tab W bt bm t) => classes_any t l bt bm _ W (HSL.out.below hW (Nat.le_refl _)) h hok.2.1 hok.1)
  have HCP := Lib.hid (fun W (bt bm : Nat) (hW : Below w.heap.size w W) (h : Tab W bt bm t) => classes_any t (l.take k) bt bm _ W (HP1.out W hW) h hok.2.1 hok.1)
  have HCQ := Lib.hid (fun W (bt bm : Nat) (hW : Below w.heap.size w W) (h : Tab W bt bm t) => classes_any t (l.drop k) bt bm _ W (HP2.out W hW) h hok.2.1 hok.1)
  have HAR := Lib.hid (fun a b W (hW : Below w.heap.size w W) => apart_any a b W (HAP.out.below hW))
  have HONE := Lib.hid (fun (h : togC t l = 0) => tog_one (t := t) (l := l) k h)
  have HTWO := Lib.hid (fun (h : togC t l = 12) => tog_two (t := t) (l := l) k h)
  have HZ := Lib.hid (fun (h : togC t l = 0) => (tog_zero.1 h).2)
  have HMEM := Lib.hid (fun a => cls_parts (t := t) (l := l) k (a := a))
  have HU1 := Lib.hid (up_nodup (clsN_up t (l.take k) 10))
  have HU2 := Lib.hid (up_nodup (clsN_up t (l.drop k) 10))
  have HU3 := Lib.hid (clsN_up t l 10)
  have HR1 : Hid (∀ a ∈ clsN t (l.take k) 10, 0 ≤ a ∧ a < 10) := Lib.hid (fun a h => by obtain ⟨c, h1, _, rfl⟩ := clsN_mem.1 h; omega)
  have HR2 : Hid (∀ a ∈ clsN t (l.drop k) 10, 0 ≤ a ∧ a < 10) := Lib.hid (fun a h => by obtain ⟨c, h1, _, rfl⟩ := clsN_mem.1 h; omega)
  have HR3 : Hid (∀ a ∈ clsN t l 10, 0 ≤ a ∧ a < 10) := Lib.hid (fun a h => by obtain ⟨c, h1, _, rfl⟩ := clsN_mem.1 h; omega)
  have HN1 := Lib.hid (clsN_len t (l.take k) 10)
  have HN2 := Lib.hid (clsN_len t (l.drop k) 10)
  have HN3 := Lib.hid (clsN_len t l 10)
  generalize togC t l = TA at *
  generalize togC t (l.take k) = TP at *
  generalize togC t (l.drop k) = TQ at *
  generalize clsN t l 10 = L at *
  generalize clsN t (l.take k) 10 = P at *
  generalize clsN t (l.drop k) 10 = Q at *
  clear h0 hok hi hz hsz hby hcap hk
  go_wp2_with (first
    | ((with_reducible refine (HNW.out _ HB.out).mono ?_); rintro e w4 ⟨bt, bq, rfl, ht4, hb4⟩; have HT := Lib.hid ht4; have HB := Lib.hid (HB.out.trans (hb4.mono HB.out.size)); clear ht4 hb4)
    | fail)
  clear HFT HFL HAW HNW HTL hll t1 t2 t3
  refine Any.region_lit (fun
    | 0 => Any.val (.pointer (some ⟨bt, 0, none⟩))
    | 1 => Any.val (.slice al l.length cl)
    | 2 => Any.val (.int .i64 TA)
    | 3 => Any.val (.pointer (some ⟨bt, 0, none⟩))
    | 4 => Any.val (.slice al l.length cl)
    | 5 => Any.val (.int .i64 (k : Int))
    | 6 => Any.val (.slice al k cl)
    | 7 => Any.val (.int .i64 TP)
    | 8 => Any.val (.pointer (some ⟨bt, 0, none⟩))
    | 9 => Any.val (.slice al l.length cl)
    | 10 => Any.val (.int .i64 (k : Int))
    | 11 => Any.val (cutV al l.length cl k 2)
    | 12 => Any.val (.int .i64 TQ)
    | 13 => Any.val (.int .i64 TA)
    | 14 => Any.val (.int .i64 TP)
    | 15 => Any.val (.int .i64 TQ)
    | _ => Any.idle) (by kernel_rfl) (by kernel_rfl) (by kernel_rfl) ?_ ?_ ?_
  · intro i _
    match i with
    | 0 => exact Any.lasts_val _
    | 1 => exact Any.lasts_val _
    | 2 => exact Any.lasts_val _
    | 3 => exact Any.lasts_val _
    | 4 => exact Any.lasts_val _
    | 5 => exact Any.lasts_val _
    | 6 => exact Any.lasts_val _
    | 7 => exact Any.lasts_val _
    | 8 => exact Any.lasts_val _
    | 9 => exact Any.lasts_val _
    | 10 => exact Any.lasts_val _
    | 11 => exact Any.lasts_val _
    | 12 => exact Any.lasts_val _
    | 13 => exact Any.lasts_val _
    | 14 => exact Any.lasts_val _
    | 15 => exact Any.lasts_val _
    | n + 16 => exact Any.lasts_idle
  · refine ⟨?_, ?_, ?_, ?_, ?_, ?_, ?_, ?_, ?_, ?_, ?_, ?_, ?_, ?_, ?_, ?_, trivial⟩
    · refine Any.owes_plain rfl fun ρ wo hs' hb hc' => ?_
      have h7 : ρ (.tmp 7) = .pointer (some ⟨bt, 0, none⟩) := hs'.old' 7 (by kernel_rfl)
      exact Any.ok_move (Any.post_val hb rfl h7)
    · refine Any.owes_plain rfl fun ρ wo hs' hb hc' => ?_
      have h1 : ρ (.tmp 1) = .slice al l.length cl := hs'.old' 1 (by kernel_rfl)
      exact Any.ok_move (Any.post_val hb rfl h1)
    · refine Any.owes_plain rfl fun ρ wo hs' hb hc' => ?_
      have h53 : ρ (.tmp 53) = .pointer (some ⟨bt, 0, none⟩) := hs'.new' 53 0 (by kernel_rfl)
      have h54 : ρ (.tmp 54) = .slice al l.length cl := hs'.new' 54 1 (by kernel_rfl)
      have hf := hs'.func 27
      go_simp
      exact (HTA.out wo _ _ (HB.out.trans ((below_undrew hb).mono HB.out.size)) (HT.out.below (below_undrew hb))).mono fun e w' ⟨he, hb'⟩ => ⟨_, he, Any.post_vals hb rfl rfl hb'⟩
    · refine Any.owes_plain rfl fun ρ wo hs' hb hc' => ?_
      have h7 : ρ (.tmp 7) = .pointer (some ⟨bt, 0, none⟩) := hs'.old' 7 (by kernel_rfl)
      exact Any.ok_move (Any.post_val hb rfl h7)
    · refine Any.owes_plain rfl fun ρ wo hs' hb hc' => ?_
      have h1 : ρ (.tmp 1) = .slice al l.length cl := hs'.old' 1 (by kernel_rfl)
      exact Any.ok_move (Any.post_val hb rfl h1)
    · refine Any.owes_plain rfl fun ρ wo hs' hb hc' => ?_
      have h2 : ρ (.tmp 2) = .int .i64 (k : Int) := hs'.old' 2 (by kernel_rfl)
      exact Any.ok_move (Any.post_val hb rfl h2)
    · refine Any.owes_plain rfl fun ρ wo hs' hb hc' => ?_
      have h57 : ρ (.tmp 57) = .slice al l.length cl := hs'.new' 57 4 (by kernel_rfl)
      have h58 : ρ (.tmp 58) = .int .i64 (k : Int) := hs'.new' 58 5 (by kernel_rfl)
      have q1 := QT.out wo
      have q2 := QF.out wo
      go_simp
      exact Any.post_val hb rfl rfl
    · refine Any.owes_plain rfl fun ρ wo hs' hb hc' => ?_
      have h56 : ρ (.tmp 56) = .pointer (some ⟨bt, 0, none⟩) := hs'.new' 56 3 (by kernel_rfl)
      have h59 : ρ (.tmp 59) = .slice al k cl := hs'.new' 59 6 (by kernel_rfl)
      have hf := hs'.func 27
      go_simp
      exact (HTP.out wo _ _ (HB.out.trans ((below_undrew hb).mono HB.out.size)) (HT.out.below (below_undrew hb))).mono fun e w' ⟨he, hb'⟩ => ⟨_, he, Any.post_vals hb rfl rfl hb'⟩
    · refine Any.owes_plain rfl fun ρ wo hs' hb hc' => ?_
      have h7 : ρ (.tmp 7) = .pointer (some ⟨bt, 0, none⟩) := hs'.old' 7 (by kernel_rfl)
      exact Any.ok_move (Any.post_val hb rfl h7)
    · refine Any.owes_plain rfl fun ρ wo hs' hb hc' => ?_
      have h1 : ρ (.tmp 1) = .slice al l.length cl := hs'.old' 1 (by kernel_rfl)
      exact Any.ok_move (Any.post_val hb rfl h1)
    · refine Any.owes_plain rfl fun ρ wo hs' hb hc' => ?_
      have h2 : ρ (.tmp 2) = .int .i64 (k : Int) := hs'.old' 2 (by kernel_rfl)
      exact Any.ok_move (Any.post_val hb rfl h2)
    · refine Any.owes_plain rfl fun ρ wo hs' hb hc' => ?_
      have h62 : ρ (.tmp 62) = .slice al l.length cl := hs'.new' 62 9 (by kernel_rfl)
      have h63 : ρ (.tmp 63) = .int .i64 (k : Int) := hs'.new' 63 10 (by kernel_rfl)
      have q1 := QT.out wo
      have q2 := QF.out wo
      go_simp
      exact Any.post_val hb rfl rfl
    · refine Any.owes_plain rfl fun ρ wo hs' hb hc' => ?_
      have h61 : ρ (.tmp 61) = .pointer (some ⟨bt, 0, none⟩) := hs'.new' 61 8 (by kernel_rfl)
      have h64 : ρ (.tmp 64) = cutV al l.length cl k 2 := hs'.new' 64 11 (by kernel_rfl)
      have hf := hs'.func 27
      go_simp
      exact (HTQ.out wo _ _ (HB.out.trans ((below_undrew hb).mono HB.out.size)) (HT.out.below (below_undrew hb))).mono fun e w' ⟨he, hb'⟩ => ⟨_, he, Any.post_vals hb rfl rfl hb'⟩
    · refine Any.owes_plain rfl fun ρ wo hs' hb hc' => ?_
      have h55 : ρ (.tmp 55) = .int .i64 TA := hs'.new' 55 2 (by kernel_rfl)
      exact Any.ok_assign (Any.post_val hb rfl h55)
    · refine Any.owes_plain rfl fun ρ wo hs' hb hc' => ?_
      have h60 : ρ (.tmp 60) = .int .i64 TP := hs'.new' 60 7 (by kernel_rfl)
      exact Any.ok_assign (Any.post_val hb rfl h60)
    · refine Any.owes_plain rfl fun ρ wo hs' hb hc' => ?_
      have h65 : ρ (.tmp 65) = .int .i64 TQ := hs'.new' 65 12 (by kernel_rfl)
      exact Any.ok_assign (Any.post_val hb rfl h65)
  intro vals w5 hb hk ha
  have h13 : vals 13 = .int .i64 TA := hk 13 (by kernel_rfl)
  have h14 : vals 14 = .int .i64 TP := hk 14 (by kernel_rfl)
  have h15 : vals 15 = .int .i64 TQ := hk 15 (by kernel_rfl)
  have HT := Lib.hid (HT.out.below hb)
  have HB := Lib.hid (HB.out.trans (hb.mono HB.out.size))
  clear hk ha hb
  simp only [Any.putAll]
  go_frame
  simp only [Nat.zero_add, Nat.reduceAdd]
  rw [h13, h14, h15]
  clear h13 h14 h15
  go_upto_region 11 with fail
  go_cut [87] from 66 (fun s wx => s = .bool false ∧ w5 = wx)
  case first =>
    by_cases hA : TA = 0
    · subst hA
      obtain ⟨rfl, rfl⟩ := HONE.out rfl
      go_wp2_with fail
      go_meet
      exact ⟨rfl, rfl⟩
    · have tA : (TA == 0) = false := by simp [hA]
      by_cases hB : TA = 12
      · subst hB
        obtain ⟨h1, h2⟩ := HTWO.out rfl
        have t1 : (TP == 1) = false := by simp [h1]
        have t2 : (TQ == 1) = false := by simp [h2]
        clear h1 h2 hA
        go_wp2_with fail
        go_meet
        exact ⟨rfl, rfl⟩
      · have tB : (TA == 12) = false := by simp [hB]
        clear hA hB
        go_wp2_with fail
        go_meet
        exact ⟨rfl, rfl⟩
  obtain ⟨rfl, rfl⟩ := hcut
  go_upto_region 13 with fail
  go_cut [97] from 66 (fun s wx => s = .bool false ∧ w5 = wx)
  case first =>
    by_cases hP : TP = 12
    · have tA : (TA == 0) = false := by
        have := HONE.out
        simp only [beq_eq_false_iff_ne]
        intro h
        have := (this h).1
        omega
      subst hP
      go_wp2_with fail
      go_meet
      exact ⟨rfl, rfl⟩
    · have tP : (TP == 12) = false := by simp [hP]
      clear hP
      by_cases hQ : TQ = 12
      · have tA : (TA == 0) = false := by
          have := HONE.out
          simp only [beq_eq_false_iff_ne]
          intro h
          have := (this h).2
          omega
        subst hQ
        go_wp2_with fail
        go_meet
        exact ⟨rfl, rfl⟩
      · have tQ : (TQ == 12) = false := by simp [hQ]
        clear hQ
        go_wp2_with fail
        go_meet
        exact ⟨rfl, rfl⟩
  obtain ⟨rfl, rfl⟩ := hcut
  clear HONE HTWO HTA HTP HTQ
  go_wp2_with fail
  refine Any.region_lit (fun
    | 0 => Any.val (.pointer (some ⟨bt, 0, none⟩))
    | 1 => Any.val (.slice al l.length cl)
    | 2 => Any.val (.int .i64 (k : Int))
    | 3 => Any.val (.slice al k cl)
    | 4 => Any.row w5.heap.size 3 1 (List.length P) (inCells P) []
    | 5 => Any.val (.pointer (some ⟨bt, 0, none⟩))
    | 6 => Any.val (.slice al l.length cl)
    | 7 => Any.val (.int .i64 (k : Int))
    | 8 => Any.val (cutV al l.length cl k 2)
    | 9 => Any.row w5.heap.size 3 1 (List.length Q) (inCells Q) []
    | 10 => Any.val (.pointer (some ⟨bt, 0, none⟩))
    | 11 => Any.val (.slice al l.length cl)
    | 12 => Any.row w5.heap.size 3 1 (List.length L) (inCells L) []
    | 13 => Any.row w5.heap.size 3 1 (List.length P) (inCells P) [4]
    | 14 => Any.row w5.heap.size 3 1 (List.length Q) (inCells Q) [9]
    | 15 => Any.row w5.heap.size 3 1 (List.length L) (inCells L) [12]
    | _ => Any.idle) (by kernel_rfl) (by kernel_rfl) (by kernel_rfl) ?_ ?_ ?_
  · intro i _
    match i with
    | 0 => exact Any.lasts_val _
    | 1 => exact Any.lasts_val _
    | 2 => exact Any.lasts_val _
    | 3 => exact Any.lasts_val _
    | 4 => exact Any.lasts_row _ _ _ _ _ _
    | 5 => exact Any.lasts_val _
    | 6 => exact Any.lasts_val _
    | 7 => exact Any.lasts_val _
    | 8 => exact Any.lasts_val _
    | 9 => exact Any.lasts_row _ _ _ _ _ _
    | 10 => exact Any.lasts_val _
    | 11 => exact Any.lasts_val _
    | 12 => exact Any.lasts_row _ _ _ _ _ _
    | 13 => exact Any.lasts_row _ _ _ _ _ _
    | 14 => exact Any.lasts_row _ _ _ _ _ _
    | 15 => exact Any.lasts_row _ _ _ _ _ _
    | n + 16 => exact Any.lasts_idle
  · refine ⟨?_, ?_, ?_, ?_, ?_, ?_, ?_, ?_, ?_, ?_, ?_, ?_, ?_, ?_, ?_, ?_, trivial⟩
    · refine Any.owes_plain rfl fun ρ wo hs' hb hc' => ?_
      have h7 : ρ (.tmp 7) = .pointer (some ⟨bt, 0, none⟩) := hs'.old' 7 (by kernel_rfl)
      exact Any.ok_move (Any.post_val hb rfl h7)
    · refine Any.owes_plain rfl fun ρ wo hs' hb hc' => ?_
      have h1 : ρ (.tmp 1) = .slice al l.length cl := hs'.old' 1 (by kernel_rfl)
      exact Any.ok_move (Any.post_val hb rfl h1)
    · refine Any.owes_plain rfl fun ρ wo hs' hb hc' => ?_
      have h2 : ρ (.tmp 2) = .int .i64 (k : Int) := hs'.old' 2 (by kernel_rfl)
      exact Any.ok_move (Any.post_val hb rfl h2)
    · refine Any.owes_plain rfl fun ρ wo hs' hb hc' => ?_
      have h99 : ρ (.tmp 99) = .slice al l.length cl := hs'.new' 99 1 (by kernel_rfl)
      have h100 : ρ (.tmp 100) = .int .i64 (k : Int) := hs'.new' 100 2 (by kernel_rfl)
      have q1 := QT.out wo
      have q2 := QF.out wo
      go_simp
      exact Any.post_val hb rfl rfl
    · refine Any.owes_plain rfl fun ρ wo hs' hb hc' => ?_
      have h98 : ρ (.tmp 98) = .pointer (some ⟨bt, 0, none⟩) := hs'.new' 98 0 (by kernel_rfl)
      have h101 : ρ (.tmp 101) = .slice al k cl := hs'.new' 101 3 (by kernel_rfl)
      have hf := hs'.func 28
      go_simp
      exact (HCP.out wo _ _ (HB.out.trans ((below_undrew hb).mono HB.out.size)) (HT.out.below (below_undrew hb))).mono fun e w' ⟨v, he, ho, hb'⟩ => ⟨v, he, Any.post_new hb (ownsRow_base ho hb.size) hb' (fun b h => (ho.lt b h).1)⟩
    · refine Any.owes_plain rfl fun ρ wo hs' hb hc' => ?_
      have h7 : ρ (.tmp 7) = .pointer (some ⟨bt, 0, none⟩) := hs'.old' 7 (by kernel_rfl)
      exact Any.ok_move (Any.post_val hb rfl h7)
    · refine Any.owes_plain rfl fun ρ wo hs' hb hc' => ?_
      have h1 : ρ (.tmp 1) = .slice al l.length cl := hs'.old' 1 (by kernel_rfl)
      exact Any.ok_move (Any.post_val hb rfl h1)
    · refine Any.owes_plain rfl fun ρ wo hs' hb hc' => ?_
      have h2 : ρ (.tmp 2) = .int .i64 (k : Int) := hs'.old' 2 (by kernel_rfl)
      exact Any.ok_move (Any.post_val hb rfl h2)
    · refine Any.owes_plain rfl fun ρ wo hs' hb hc' => ?_
      have h104 : ρ (.tmp 104) = .slice al l.length cl := hs'.new' 104 6 (by kernel_rfl)
      have h105 : ρ (.tmp 105) = .int .i64 (k : Int) := hs'.new' 105 7 (by kernel_rfl)
      have q1 := QT.out wo
      have q2 := QF.out wo
      go_simp
      exact Any.post_val hb rfl rfl
    · refine Any.owes_plain rfl fun ρ wo hs' hb hc' => ?_
      have h103 : ρ (.tmp 103) = .pointer (some ⟨bt, 0, none⟩) := hs'.new' 103 5 (by kernel_rfl)
      have h106 : ρ (.tmp 106) = cutV al l.length cl k 2 := hs'.new' 106 8 (by kernel_rfl)
      have hf := hs'.func 28
      go_simp
      exact (HCQ.out wo _ _ (HB.out.trans ((below_undrew hb).mono HB.out.size)) (HT.out.below (below_undrew hb))).mono fun e w' ⟨v, he, ho, hb'⟩ => ⟨v, he, Any.post_new hb (ownsRow_base ho hb.size) hb' (fun b h => (ho.lt b h).1)⟩
    · refine Any.owes_plain rfl fun ρ wo hs' hb hc' => ?_
      have h7 : ρ (.tmp 7) = .pointer (some ⟨bt, 0, none⟩) := hs'.old' 7 (by kernel_rfl)
      exact Any.ok_move (Any.post_val hb rfl h7)
    · refine Any.owes_plain rfl fun ρ wo hs' hb hc' => ?_
      have h1 : ρ (.tmp 1) = .slice al l.length cl := hs'.old' 1 (by kernel_rfl)
      exact Any.ok_move (Any.post_val hb rfl h1)
    · refine Any.owes_plain rfl fun ρ wo hs' hb hc' => ?_
      have h108 : ρ (.tmp 108) = .pointer (some ⟨bt, 0, none⟩) := hs'.new' 108 10 (by kernel_rfl)
      have h109 : ρ (.tmp 109) = .slice al l.length cl := hs'.new' 109 11 (by kernel_rfl)
      have hf := hs'.func 28
      go_simp
      exact (HCL.out wo _ _ (HB.out.trans ((below_undrew hb).mono HB.out.size)) (HT.out.below (below_undrew hb))).mono fun e w' ⟨v, he, ho, hb'⟩ => ⟨v, he, Any.post_new hb (ownsRow_base ho hb.size) hb' (fun b h => (ho.lt b h).1)⟩
    · refine Any.owes_plain rfl fun ρ wo hs' hb hc' => ?_
      have h8 : wo.ownsRow w5.heap.size 3 1 (ρ (.tmp 102)) (List.length P) (inCells P) := hs'.new' 102 4 (by kernel_rfl)
      exact Any.ok_assign (Any.post_pass hb rfl ⟨_, rfl⟩ rfl rfl h8)
    · refine Any.owes_plain rfl fun ρ wo hs' hb hc' => ?_
      have h8 : wo.ownsRow w5.heap.size 3 1 (ρ (.tmp 107)) (List.length Q) (inCells Q) := hs'.new' 107 9 (by kernel_rfl)
      exact Any.ok_assign (Any.post_pass hb rfl ⟨_, rfl⟩ rfl rfl h8)
    · refine Any.owes_plain rfl fun ρ wo hs' hb hc' => ?_
      have h8 : wo.ownsRow w5.heap.size 3 1 (ρ (.tmp 110)) (List.length L) (inCells L) := hs'.new' 110 12 (by kernel_rfl)
      exact Any.ok_assign (Any.post_pass hb rfl ⟨_, rfl⟩ rfl rfl h8)
  intro vals w6 hb hk ha
  have o13 : w6.ownsRow w5.heap.size 3 1 (vals 13) (List.length P) (inCells P) := hk 13 (by kernel_rfl)
  have o14 : w6.ownsRow w5.heap.size 3 1 (vals 14) (List.length Q) (inCells Q) := hk 14 (by kernel_rfl)
  have o15 : w6.ownsRow w5.heap.size 3 1 (vals 15) (List.length L) (inCells L) := hk 15 (by kernel_rfl)
  have HB := Lib.hid (HB.out.trans (hb.mono HB.out.size))
  have HS1 := Lib.hid (own_ints o13 rfl)
  have HS2 := Lib.hid (own_ints o14 rfl)
  have HS3 := Lib.hid (own_ints o15 rfl)
  clear hk ha hb
  simp only [Any.putAll]
  go_frame
  simp only [Nat.zero_add, Nat.reduceAdd]
  generalize vals 13 = v1 at *
  generalize vals 14 = v2 at *
  generalize vals 15 = v3 at *
  clear o13 o14 o15
  obtain ⟨a1, c1, rfl⟩ : ∃ a c, v1 = .slice a P.length c := by simpa using HS1.out.shape
  obtain ⟨a2, c2, rfl⟩ : ∃ a c, v2 = .slice a Q.length c := by simpa using HS2.out.shape
  obtain ⟨a3, c3, rfl⟩ : ∃ a c, v3 = .slice a L.length c := by simpa using HS3.out.shape
  have h1 := HN1.out
  have h2 := HN2.out
  have h3 := HN3.out
  have tm : ∀ W : World, (Instr.makeMap 53 none).run Tryd.prog W = .ok (.map (some W.heap.size)) (W.alloc (.map #[] 0)) := fun W => by kernel_rfl
  have HM0 := Lib.hid (SeenAt.made w6)
  go_wp2_with fail
  obtain ⟨bm, hbm⟩ : ∃ b, b = w6.heap.size := ⟨_, rfl⟩
  rw [← hbm] at HM0 ⊢
  have HBM : Hid (w6.heap.size = bm) := Lib.hid hbm.symm
  clear hbm tm
  go_loopw [16] (fun i wr => ∃ n : Nat, n ≤ P.length ∧ i = .int .i64 n ∧ SeenAt wr bm (insI (P.take n) []) ∧ Below w6.heap.size w6 wr) (fun i _ => P.length - (intOf i).toNat)
  case atStart => exact ⟨0, Nat.zero_le _, rfl, HM0.out, one_below _ _⟩
  case round =>
    obtain ⟨n, hn, rfl, hse, hbel⟩ := hrel
    have HSE := Lib.hid hse
    have HBL := Lib.hid hbel
    by_cases hlt : n < P.length
    · obtain ⟨b, off, rfl, -, hb, hc⟩ := HS1.out.at (i := n) (by simpa using hlt)
      have hcell : ∀ j, (hj : j < P.length) → w6.cell? ⟨b, off + j, none⟩ = some (.int .i64 P[j]) := fun j hj => by
        have := hc j (inRow P[j]) (by simp [hj]) 0 _ rfl
        rwa [Nat.mul_one] at this
      have d0 := (hbel.cell (p := ⟨b, off + n, none⟩) hb).trans (hcell n hlt)
      have HX := Lib.hid (HR1.out P[n] (List.getElem_mem hlt))
      have HNX := Lib.hid (insI_take (S := []) hlt)
      have tn : ((n : Nat) : Int) < (P.length : Int) := by omega
      generalize P[n] = x at *
      clear hc hcell hbel hse hb
      go_wp2_with (first
        | ((with_reducible refine wpl_see (b := bm) (S := insI (P.take n) []) (c := x) ?_ ?_ ?_ ?_ HSE.out HX.out ?_); rfl; rfl; rfl; rfl; intro w7 hs7 hg7; have HS7 := Lib.hid hs7; have HG7 := Lib.hid hg7; clear hs7 hg7; go_frame)
        | fail)
      go_roundw
      case rel => exact ⟨n + 1, by omega, by go_num, by rw [HNX.out]; exact HS7.out, HBL.out.grown HG7.out HBL.out.size (fun j hj => by obtain rfl : bm = j := Option.some.inj hj; exact Nat.le_of_eq HBM.out)⟩
      case measure => (simp [intOf]) <;> omega
    · have HSP : Hid (SeenAt wr bm (insI P [])) := Lib.hid (by rw [List.take_of_length_le (by omega)] at hse; exact hse)
      clear hse hbel hn
      go_wp2_with fail
      generalize wr = w7 at *
      go_loopw [17] (fun i wr => ∃ n : Nat, n ≤ Q.length ∧ i = .int .i64 n ∧ SeenAt wr bm (insI (Q.take n) (insI P [])) ∧ Below w6.heap.size w6 wr) (fun i _ => Q.length - (intOf i).toNat)
      case atStart => exact ⟨0, Nat.zero_le _, rfl, HSP.out, HBL.out⟩
      case round =>
        obtain ⟨n, hn, rfl, hse, hbel⟩ := hrel
        have HSE := Lib.hid hse
        have HBL := Lib.hid hbel
        by_cases hlt : n < Q.length
        · obtain ⟨b, off, rfl, -, hb, hc⟩ := HS2.out.at (i := n) (by simpa using hlt)
          have hcell : ∀ j, (hj : j < Q.length) → w6.cell? ⟨b, off + j, none⟩ = some (.int .i64 Q[j]) := fun j hj => by
            have := hc j (inRow Q[j]) (by simp [hj]) 0 _ rfl
            rwa [Nat.mul_one] at this
          have d0 := (hbel.cell (p := ⟨b, off + n, none⟩) hb).trans (hcell n hlt)
          have HX := Lib.hid (HR2.out Q[n] (List.getElem_mem hlt))
          have HNX := Lib.hid (insI_take (S := insI P []) hlt)
          have tn : ((n : Nat) : Int) < (Q.length : Int) := by omega
          generalize Q[n] = x at *
          clear hc hcell hbel hse hb
          go_wp2_with (first
            | ((with_reducible refine wpl_see (b := bm) (S := insI (Q.take n) (insI P [])) (c := x) ?_ ?_ ?_ ?_ HSE.out HX.out ?_); rfl; rfl; rfl; rfl; intro w8 hs8 hg8; have HS8 := Lib.hid hs8; have HG8 := Lib.hid hg8; clear hs8 hg8; go_frame)
            | fail)
          go_roundw
          case rel => exact ⟨n + 1, by omega, by go_num, by rw [HNX.out]; exact HS8.out, HBL.out.grown HG8.out HBL.out.size (fun j hj => by obtain rfl : bm = j := Option.some.inj hj; exact Nat.le_of_eq HBM.out)⟩
          case measure => (simp [intOf]) <;> omega
        · obtain ⟨S, hS⟩ : ∃ S, S = insI Q (insI P []) := ⟨_, rfl⟩
          have HSP : Hid (SeenAt wr bm S) := Lib.hid (by rw [List.take_of_length_le (by omega)] at hse; rw [hS]; exact hse)
          have HIN : Hid (∀ a, a ∈ L ↔ a ∈ S) := Lib.hid fun a => by rw [HMEM.out, hS, mem_insI, mem_insI]; simp
          have HLE : Hid (L.length = S.length) := Lib.hid (len_same (up_nodup HU3.out) HSP.out.2 HIN.out)
          clear hse hbel hn hS
          go_wp2_with fail
          generalize wr = w8 at *
          go_loopw [18] (fun i wr => ∃ n : Nat, n ≤ L.length ∧ i = .int .i64 n ∧ SeenAt wr bm S ∧ Below w6.heap.size w6 wr) (fun i _ => L.length - (intOf i).toNat)
          case atStart => exact ⟨0, Nat.zero_le _, rfl, HSP.out, HBL.out⟩
          case round =>
            obtain ⟨n, hn, rfl, hse, hbel⟩ := hrel
            have HSE := Lib.hid hse
            have HBL := Lib.hid hbel
            by_cases hlt : n < L.length
            · obtain ⟨bl, ol, rfl, -, hb, hc⟩ := HS3.out.at (i := n) (by simpa using hlt)
              have hcell : ∀ j, (hj : j < L.length) → w6.cell? ⟨bl, ol + j, none⟩ = some (.int .i64 L[j]) := fun j hj => by
                have := hc j (inRow L[j]) (by simp [hj]) 0 _ rfl
                rwa [Nat.mul_one] at this
              have HCE := Lib.hid (fun j (hj : j < L.length) W (hW : Below w6.heap.size w6 W) => (hW.cell (p := ⟨bl, ol + j, none⟩) hb).trans (hcell j hj))
              have HX := Lib.hid (HCE.out n hlt)
              have HXR := Lib.hid (HR3.out L[n] (List.getElem_mem hlt))
              have HXI := Lib.hid ((HIN.out L[n]).1 (List.getElem_mem hlt))
              have HK := Lib.hid hlt
              have tn : ((n : Nat) : Int) < (L.length : Int) := by omega
              rcases n with - | m
              · generalize L[0] = x at *
                have t0 : ((0 : Nat) : Int) = 0 := rfl
                rw [t0] at tn ⊢
                clear hc hcell hbel hse hb hn hlt t0
                go_wp2_with fail
                refine Any.region_lit (fun
                  | 0 => Any.val (.map (some bm))
                  | 1 => Any.val (.slice (some ⟨bl, ol, none⟩) (List.length L) c3)
                  | 2 => Any.val (.int .i64 0)
                  | 3 => Any.val (.pointer (some ⟨bl, ol, none⟩))
                  | 4 => Any.val (.int .i64 x)
                  | 5 => Any.val (.bool true)
                  | 6 => Any.val (.bool false)
                  | 7 => Any.val (.bool false)
                  | 8 => Any.val (.int .i64 0)
                  | 9 => Any.val (.bool false)
                  | 10 => Any.val (.bool false)
                  | 11 => Any.idle
                  | 12 => Any.idle
                  | 13 => Any.idle
                  | 14 => Any.idle
                  | 15 => Any.idle
                  | 16 => Any.idle
                  | 17 => Any.idle
                  | 18 => Any.idle
                  | 19 => Any.idle
                  | 20 => Any.idle
                  | 21 => Any.val (.bool false)
                  | 22 => Any.val (.bool false)
                  | _ => Any.idle) (by kernel_rfl) (by kernel_rfl) (by kernel_rfl) ?_ ?_ ?_
                · intro i _
                  match i with
                  | 0 => exact Any.lasts_val _
                  | 1 => exact Any.lasts_val _
                  | 2 => exact Any.lasts_val _
                  | 3 => exact Any.lasts_val _
                  | 4 => exact Any.lasts_val _
                  | 5 => exact Any.lasts_val _
                  | 6 => exact Any.lasts_val _
                  | 7 => exact Any.lasts_val _
                  | 8 => exact Any.lasts_val _
                  | 9 => exact Any.lasts_val _
                  | 10 => exact Any.lasts_val _
                  | 11 => exact Any.lasts_idle
                  | 12 => exact Any.lasts_idle
                  | 13 => exact Any.lasts_idle
                  | 14 => exact Any.lasts_idle
                  | 15 => exact Any.lasts_idle
                  | 16 => exact Any.lasts_idle
                  | 17 => exact Any.lasts_idle
                  | 18 => exact Any.lasts_idle
                  | 19 => exact Any.lasts_idle
                  | 20 => exact Any.lasts_idle
                  | 21 => exact Any.lasts_val _
                  | 22 => exact Any.lasts_val _
                  | n + 23 => exact Any.lasts_idle
                · refine ⟨?_, ?_, ?_, ?_, ?_, ?_, ?_, ?_, ?_, ?_, ?_, ?_, ?_, ?_, ?_, ?_, ?_, ?_, ?_, ?_, ?_, ?_, ?_, trivial⟩
                  · refine Any.owes_plain rfl fun ρ wo hs' hb hc' => ?_
                    have h15 : ρ (.tmp 15) = .map (some bm) := hs'.old' 15 (by kernel_rfl)
                    exact Any.ok_move (Any.post_val hb rfl h15)
                  · refine Any.owes_plain rfl fun ρ wo hs' hb hc' => ?_
                    have h14 : ρ (.tmp 14) = .slice (some ⟨bl, ol, none⟩) (List.length L) c3 := hs'.old' 14 (by kernel_rfl)
                    exact Any.ok_move (Any.post_val hb rfl h14)
                  · refine Any.owes_plain rfl fun ρ wo hs' hb hc' => ?_
                    have h18 : ρ (.tmp 18) = .int .i64 0 := hs'.old' 18 (by kernel_rfl)
                    exact Any.ok_move (Any.post_val hb rfl h18)
                  · refine Any.owes_plain rfl fun ρ wo hs' hb hc' => ?_
                    have h141 : ρ (.tmp 141) = .slice (some ⟨bl, ol, none⟩) (List.length L) c3 := hs'.new' 141 1 (by kernel_rfl)
                    have h142 : ρ (.tmp 142) = .int .i64 0 := hs'.new' 142 2 (by kernel_rfl)
                    go_simp
                    exact Any.post_val hb rfl rfl
                  · refine Any.owes_plain rfl fun ρ wo hs' hb hc' => ?_
                    have h143 : ρ (.tmp 143) = .pointer (some ⟨bl, ol, none⟩) := hs'.new' 143 3 (by kernel_rfl)
                    have c0 : wo.cell? ⟨bl, ol, none⟩ = some (.int .i64 x) := HX.out wo (HBL.out.trans ((below_undrew hb).mono HBL.out.size))
                    go_simp
                    exact Any.post_val hb rfl rfl
                  · refine Any.owes_plain rfl fun ρ wo hs' hb hc' => ?_
                    have h140 : ρ (.tmp 140) = .map (some bm) := hs'.new' 140 0 (by kernel_rfl)
                    have h144 : ρ (.tmp 144) = .int .i64 x := hs'.new' 144 4 (by kernel_rfl)
                    exact ok_seen (c := x) (S := S) h140 h144 (HSE.out.below HSE.out.1.lt (below_undrew hb)) HXR.out HXI.out (Any.post_val hb rfl rfl)
                  · refine Any.owes_plain rfl fun ρ wo hs' hb hc' => ?_
                    have h145 : ρ (.tmp 145) = .bool true := hs'.new' 145 5 (by kernel_rfl)
                    go_simp
                    exact Any.post_val hb rfl rfl
                  · refine Any.owes_plain rfl fun ρ wo hs' hb hc' => ?_
                    have h146 : ρ (.tmp 146) = .bool false := hs'.new' 146 6 (by kernel_rfl)
                    exact Any.ok_move (Any.post_val hb rfl h146)
                  · refine Any.owes_on rfl rfl (by kernel_rfl) rfl fun ρ wo hs' hb hc' => ?_
                    have h18 : ρ (.tmp 18) = .int .i64 0 := hs'.old' 18 (by kernel_rfl)
                    exact Any.ok_move (Any.post_val hb rfl h18)
                  · refine Any.owes_on rfl rfl (by kernel_rfl) rfl fun ρ wo hs' hb hc' => ?_
                    have h148 : ρ (.tmp 148) = .int .i64 0 := hs'.new' 148 8 (by kernel_rfl)
                    go_simp
                    exact Any.post_val hb rfl rfl
                  · refine Any.owes_on rfl rfl (by kernel_rfl) rfl fun ρ wo hs' hb hc' => ?_
                    have h149 : ρ (.tmp 149) = .bool false := hs'.new' 149 9 (by kernel_rfl)
                    exact Any.ok_move (Any.post_val hb rfl h149)
                  · exact Any.owes_off rfl rfl (by kernel_rfl) rfl (by decide) rfl
                  · exact Any.owes_off rfl rfl (by kernel_rfl) rfl (by decide) rfl
                  · exact Any.owes_off rfl rfl (by kernel_rfl) rfl (by decide) rfl
                  · exact Any.owes_off rfl rfl (by kernel_rfl) rfl (by decide) rfl
                  · exact Any.owes_off rfl rfl (by kernel_rfl) rfl (by decide) rfl
                  · exact Any.owes_off rfl rfl (by kernel_rfl) rfl (by decide) rfl
                  · exact Any.owes_off rfl rfl (by kernel_rfl) rfl (by decide) rfl
                  · exact Any.owes_off rfl rfl (by kernel_rfl) rfl (by decide) rfl
                  · exact Any.owes_off rfl rfl (by kernel_rfl) rfl (by decide) rfl
                  · exact Any.owes_off rfl rfl (by kernel_rfl) rfl (by decide) rfl
                  · refine Any.owes_on rfl rfl (by kernel_rfl) rfl fun ρ wo hs' hb hc' => ?_
                    have h150 : ρ (.tmp 150) = .bool false := hs'.new' 150 10 (by kernel_rfl)
                    go_simp
                    exact Any.post_val hb rfl rfl
                  · refine Any.owes_plain rfl fun ρ wo hs' hb hc' => ?_
                    have h147 : ρ (.tmp 147) = .bool false := hs'.new' 147 7 (by kernel_rfl)
                    have h161 : ρ (.tmp 161) = .bool false := hs'.new' 161 21 (by kernel_rfl)
                    go_simp
                    exact Any.post_val hb rfl rfl
                · intro vals w9 hb hk ha
                  have h22 : vals 22 = .bool false := hk 22 (by kernel_rfl)
                  have HB9 := Lib.hid (HBL.out.trans (hb.mono HBL.out.size))
                  have HS9 := Lib.hid (HSE.out.below HSE.out.1.lt hb)
                  clear hk ha hb
                  simp only [Any.putAll]
                  go_frame
                  simp only [Nat.zero_add, Nat.reduceAdd]
                  rw [h22]
                  clear h22
                  go_wp2_with fail
                  go_roundw
                  case rel => exact ⟨0 + 1, by have := HK.out; omega, by go_num, HS9.out, HB9.out⟩
                  case measure => have := HK.out; (simp [intOf]) <;> omega
              · have hm : m < L.length := by omega
                have HY := Lib.hid (HCE.out m hm)
                have hlt2 : L[m] < L[m + 1] := List.pairwise_iff_getElem.1 HU3.out m (m + 1) hm hlt (by omega)
                have txy : decide (L[m + 1] ≤ L[m]) = false := decide_eq_false (by omega)
                generalize L[m + 1] = x at *
                generalize L[m] = y at *
                have hmb : (m : Int) ≤ 4000 := by have := HN3.out; omega
                have t0 : ((m + 1 : Nat) : Int) = (m : Int) + 1 := rfl
                rw [t0] at tn ⊢
                clear hc hcell hbel hse hb hn hlt t0 hlt2
                go_wp2_with fail
                refine Any.region_lit (fun
                  | 0 => Any.val (.map (some bm))
                  | 1 => Any.val (.slice (some ⟨bl, ol, none⟩) (List.length L) c3)
                  | 2 => Any.val (.int .i64 ((m : Int) + 1))
                  | 3 => Any.val (.pointer (some ⟨bl, ol + (m + 1), none⟩))
                  | 4 => Any.val (.int .i64 x)
                  | 5 => Any.val (.bool true)
                  | 6 => Any.val (.bool false)
                  | 7 => Any.val (.bool false)
                  | 8 => Any.val (.int .i64 ((m : Int) + 1))
                  | 9 => Any.val (.bool true)
                  | 10 => Any.val (.bool true)
                  | 11 => Any.val (.slice (some ⟨bl, ol, none⟩) (List.length L) c3)
                  | 12 => Any.val (.int .i64 ((m : Int) + 1))
                  | 13 => Any.val (.int .i64 (m : Int))
                  | 14 => Any.val (.pointer (some ⟨bl, ol + m, none⟩))
                  | 15 => Any.val (.int .i64 y)
                  | 16 => Any.val (.slice (some ⟨bl, ol, none⟩) (List.length L) c3)
                  | 17 => Any.val (.int .i64 ((m : Int) + 1))
                  | 18 => Any.val (.pointer (some ⟨bl, ol + (m + 1), none⟩))
                  | 19 => Any.val (.int .i64 x)
                  | 20 => Any.val (.bool false)
                  | 21 => Any.val (.bool false)
                  | 22 => Any.val (.bool false)
                  | _ => Any.idle) (by kernel_rfl) (by kernel_rfl) (by kernel_rfl) ?_ ?_ ?_
                · intro i _
                  match i with
                  | 0 => exact Any.lasts_val _
                  | 1 => exact Any.lasts_val _
                  | 2 => exact Any.lasts_val _
                  | 3 => exact Any.lasts_val _
                  | 4 => exact Any.lasts_val _
                  | 5 => exact Any.lasts_val _
                  | 6 => exact Any.lasts_val _
                  | 7 => exact Any.lasts_val _
                  | 8 => exact Any.lasts_val _
                  | 9 => exact Any.lasts_val _
                  | 10 => exact Any.lasts_val _
                  | 11 => exact Any.lasts_val _
                  | 12 => exact Any.lasts_val _
                  | 13 => exact Any.lasts_val _
                  | 14 => exact Any.lasts_val _
                  | 15 => exact Any.lasts_val _
                  | 16 => exact Any.lasts_val _
                  | 17 => exact Any.lasts_val _
                  | 18 => exact Any.lasts_val _
                  | 19 => exact Any.lasts_val _
                  | 20 => exact Any.lasts_val _
                  | 21 => exact Any.lasts_val _
                  | 22 => exact Any.lasts_val _
                  | n + 23 => exact Any.lasts_idle
                · refine ⟨?_, ?_, ?_, ?_, ?_, ?_, ?_, ?_, ?_, ?_, ?_, ?_, ?_, ?_, ?_, ?_, ?_, ?_, ?_, ?_, ?_, ?_, ?_, trivial⟩
                  · refine Any.owes_plain rfl fun ρ wo hs' hb hc' => ?_
                    have h15 : ρ (.tmp 15) = .map (some bm) := hs'.old' 15 (by kernel_rfl)
                    exact Any.ok_move (Any.post_val hb rfl h15)
                  · refine Any.owes_plain rfl fun ρ wo hs' hb hc' => ?_
                    have h14 : ρ (.tmp 14) = .slice (some ⟨bl, ol, none⟩) (List.length L) c3 := hs'.old' 14 (by kernel_rfl)
                    exact Any.ok_move (Any.post_val hb rfl h14)
                  · refine Any.owes_plain rfl fun ρ wo hs' hb hc' => ?_
                    have h18 : ρ (.tmp 18) = .int .i64 ((m : Int) + 1) := hs'.old' 18 (by kernel_rfl)
                    exact Any.ok_move (Any.post_val hb rfl h18)
                  · refine Any.owes_plain rfl fun ρ wo hs' hb hc' => ?_
                    have h141 : ρ (.tmp 141) = .slice (some ⟨bl, ol, none⟩) (List.length L) c3 := hs'.new' 141 1 (by kernel_rfl)
                    have h142 : ρ (.tmp 142) = .int .i64 ((m : Int) + 1) := hs'.new' 142 2 (by kernel_rfl)
                    go_simp
                    exact Any.post_val hb rfl rfl
                  · refine Any.owes_plain rfl fun ρ wo hs' hb hc' => ?_
                    have h143 : ρ (.tmp 143) = .pointer (some ⟨bl, ol + (m + 1), none⟩) := hs'.new' 143 3 (by kernel_rfl)
                    have c0 := HX.out wo (HBL.out.trans ((below_undrew hb).mono HBL.out.size))
                    go_simp
                    exact Any.post_val hb rfl rfl
                  · refine Any.owes_plain rfl fun ρ wo hs' hb hc' => ?_
                    have h140 : ρ (.tmp 140) = .map (some bm) := hs'.new' 140 0 (by kernel_rfl)
                    have h144 : ρ (.tmp 144) = .int .i64 x := hs'.new' 144 4 (by kernel_rfl)
                    exact ok_seen (c := x) (S := S) h140 h144 (HSE.out.below HSE.out.1.lt (below_undrew hb)) HXR.out HXI.out (Any.post_val hb rfl rfl)
                  · refine Any.owes_plain rfl fun ρ wo hs' hb hc' => ?_
                    have h145 : ρ (.tmp 145) = .bool true := hs'.new' 145 5 (by kernel_rfl)
                    go_simp
                    exact Any.post_val hb rfl rfl
                  · refine Any.owes_plain rfl fun ρ wo hs' hb hc' => ?_
                    have h146 : ρ (.tmp 146) = .bool false := hs'.new' 146 6 (by kernel_rfl)
                    exact Any.ok_move (Any.post_val hb rfl h146)
                  · refine Any.owes_on rfl rfl (by kernel_rfl) rfl fun ρ wo hs' hb hc' => ?_
                    have h18 : ρ (.tmp 18) = .int .i64 ((m : Int) + 1) := hs'.old' 18 (by kernel_rfl)
                    exact Any.ok_move (Any.post_val hb rfl h18)
                  · refine Any.owes_on rfl rfl (by kernel_rfl) rfl fun ρ wo hs' hb hc' => ?_
                    have h148 : ρ (.tmp 148) = .int .i64 ((m : Int) + 1) := hs'.new' 148 8 (by kernel_rfl)
                    go_simp
                    exact Any.post_val hb rfl rfl
                  · refine Any.owes_on rfl rfl (by kernel_rfl) rfl fun ρ wo hs' hb hc' => ?_
                    have h149 : ρ (.tmp 149) = .bool true := hs'.new' 149 9 (by kernel_rfl)
                    exact Any.ok_move (Any.post_val hb rfl h149)
                  · refine Any.owes_on rfl rfl (by kernel_rfl) rfl fun ρ wo hs' hb hc' => ?_
                    have h14 : ρ (.tmp 14) = .slice (some ⟨bl, ol, none⟩) (List.length L) c3 := hs'.old' 14 (by kernel_rfl)
                    exact Any.ok_move (Any.post_val hb rfl h14)
                  · refine Any.owes_on rfl rfl (by kernel_rfl) rfl fun ρ wo hs' hb hc' => ?_
                    have h18 : ρ (.tmp 18) = .int .i64 ((m : Int) + 1) := hs'.old' 18 (by kernel_rfl)
                    exact Any.ok_move (Any.post_val hb rfl h18)
                  · refine Any.owes_on rfl rfl (by kernel_rfl) rfl fun ρ wo hs' hb hc' => ?_
                    have h152 : ρ (.tmp 152) = .int .i64 ((m : Int) + 1) := hs'.new' 152 12 (by kernel_rfl)
                    have e : IntKind.i64.wrap (m : Int) = m := IntWalk.i64_in _ (by omega)
                    go_simp
                    exact Any.post_val hb rfl rfl
                  · refine Any.owes_on rfl rfl (by kernel_rfl) rfl fun ρ wo hs' hb hc' => ?_
                    have h151 : ρ (.tmp 151) = .slice (some ⟨bl, ol, none⟩) (List.length L) c3 := hs'.new' 151 11 (by kernel_rfl)
                    have h153 : ρ (.tmp 153) = .int .i64 (m : Int) := hs'.new' 153 13 (by kernel_rfl)
                    go_simp
                    exact Any.post_val hb rfl rfl
                  · refine Any.owes_on rfl rfl (by kernel_rfl) rfl fun ρ wo hs' hb hc' => ?_
                    have h154 : ρ (.tmp 154) = .pointer (some ⟨bl, ol + m, none⟩) := hs'.new' 154 14 (by kernel_rfl)
                    have c0 := HY.out wo (HBL.out.trans ((below_undrew hb).mono HBL.out.size))
                    go_simp
                    exact Any.post_val hb rfl rfl
                  · refine Any.owes_on rfl rfl (by kernel_rfl) rfl fun ρ wo hs' hb hc' => ?_
                    have h14 : ρ (.tmp 14) = .slice (some ⟨bl, ol, none⟩) (List.length L) c3 := hs'.old' 14 (by kernel_rfl)
                    exact Any.ok_move (Any.post_val hb rfl h14)
                  · refine Any.owes_on rfl rfl (by kernel_rfl) rfl fun ρ wo hs' hb hc' => ?_
                    have h18 : ρ (.tmp 18) = .int .i64 ((m : Int) + 1) := hs'.old' 18 (by kernel_rfl)
                    exact Any.ok_move (Any.post_val hb rfl h18)
                  · refine Any.owes_on rfl rfl (by kernel_rfl) rfl fun ρ wo hs' hb hc' => ?_
                    have h156 : ρ (.tmp 156) = .slice (some ⟨bl, ol, none⟩) (List.length L) c3 := hs'.new' 156 16 (by kernel_rfl)
                    have h157 : ρ (.tmp 157) = .int .i64 ((m : Int) + 1) := hs'.new' 157 17 (by kernel_rfl)
                    go_simp
                    exact Any.post_val hb rfl rfl
                  · refine Any.owes_on rfl rfl (by kernel_rfl) rfl fun ρ wo hs' hb hc' => ?_
                    have h158 : ρ (.tmp 158) = .pointer (some ⟨bl, ol + (m + 1), none⟩) := hs'.new' 158 18 (by kernel_rfl)
                    have c0 := HX.out wo (HBL.out.trans ((below_undrew hb).mono HBL.out.size))
                    go_simp
                    exact Any.post_val hb rfl rfl
                  · refine Any.owes_on rfl rfl (by kernel_rfl) rfl fun ρ wo hs' hb hc' => ?_
                    have h155 : ρ (.tmp 155) = .int .i64 y := hs'.new' 155 15 (by kernel_rfl)
                    have h159 : ρ (.tmp 159) = .int .i64 x := hs'.new' 159 19 (by kernel_rfl)
                    go_simp
                    exact Any.post_val hb rfl rfl
                  · refine Any.owes_on rfl rfl (by kernel_rfl) rfl fun ρ wo hs' hb hc' => ?_
                    have h150 : ρ (.tmp 150) = .bool true := hs'.new' 150 10 (by kernel_rfl)
                    have h160 : ρ (.tmp 160) = .bool false := hs'.new' 160 20 (by kernel_rfl)
                    go_simp
                    exact Any.post_val hb rfl rfl
                  · refine Any.owes_plain rfl fun ρ wo hs' hb hc' => ?_
                    have h147 : ρ (.tmp 147) = .bool false := hs'.new' 147 7 (by kernel_rfl)
                    have h161 : ρ (.tmp 161) = .bool false := hs'.new' 161 21 (by kernel_rfl)
                    go_simp
                    exact Any.post_val hb rfl rfl
                · intro vals w9 hb hk ha
                  have h22 : vals 22 = .bool false := hk 22 (by kernel_rfl)
                  have HB9 := Lib.hid (HBL.out.trans (hb.mono HBL.out.size))
                  have HS9 := Lib.hid (HSE.out.below HSE.out.1.lt hb)
                  clear hk ha hb
                  simp only [Any.putAll]
                  go_frame
                  simp only [Nat.zero_add, Nat.reduceAdd]
                  rw [h22]
                  clear h22
                  go_wp2_with fail
                  go_roundw
                  case rel => exact ⟨(m + 1) + 1, by have := HK.out; omega, by go_num, HS9.out, HB9.out⟩
                  case measure => have := HK.out; (simp [intOf]) <;> omega
            · have tl : ((L.length : Int) != (S.length : Int)) = false := by rw [HLE.out]; simp
              clear hse hbel hn
              go_wp2_with (first
                | ((with_reducible refine wpl_lenS (b := bm) (S := S) ?_ ?_ HSE.out ?_); rfl; rfl; go_frame)
                | fail)
              generalize wr = w9 at *
              go_loopw [19, 20, 21] (fun ap i _ wr => ∃ (k : Nat) (b : Bool), k ≤ L.length ∧ i = .int .i64 k ∧ ap = .bool b ∧ (TA = 0 → b = false) ∧ Below w6.heap.size w6 wr) (fun _ i _ _ => L.length - (intOf i).toNat)
              case atStart => exact ⟨0, false, Nat.zero_le _, rfl, rfl, fun _ => rfl, HBL.out⟩
              case round =>
                obtain ⟨k, b, hk, rfl, rfl, hbb, hbel⟩ := hrel
                have HBB := Lib.hid hbb
                have HBL := Lib.hid hbel
                by_cases hlt : k < L.length
                · have tk : ((k : Nat) : Int) < (L.length : Int) := by omega
                  have HK := Lib.hid hlt
                  clear hbb hbel hk
                  go_wp2_with fail
                  generalize wr = wA at *
                  go_loopw [19, 21] (fun ap i wr => ∃ (m : Nat) (b : Bool), m ≤ k ∧ i = .int .i64 m ∧ ap = .bool b ∧ (TA = 0 → b = false) ∧ Below w6.heap.size w6 wr) (fun _ i _ => k - (intOf i).toNat)
                  case atStart => exact ⟨0, b, Nat.zero_le _, rfl, rfl, HBB.out, HBL.out⟩
                  case round =>
                    obtain ⟨m, b, hm, rfl, rfl, hbb, hbel⟩ := hrel
                    have HBB := Lib.hid hbb
                    have HBL := Lib.hid hbel
                    by_cases hlm : m < k
                    · obtain ⟨bl, ol, rfl, -, hb, hc⟩ := HS3.out.at (i := k) (by simpa using hlt)
                      have hcell : ∀ j, (hj : j < L.length) → w6.cell? ⟨bl, ol + j, none⟩ = some (.int .i64 L[j]) := fun j hj => by
                        have := hc j (inRow L[j]) (by simp [hj]) 0 _ rfl
                        rwa [Nat.mul_one] at this
                      have HCE := Lib.hid (fun j (hj : j < L.length) W (hW : Below w6.heap.size w6 W) => (hW.cell (p := ⟨bl, ol + j, none⟩) hb).trans (hcell j hj))
                      have hml : m < L.length := by omega
                      have HX := Lib.hid (HCE.out k hlt)
                      have HY := Lib.hid (HCE.out m hml)
                      have tm : ((m : Nat) : Int) < (k : Int) := by omega
                      have tml : ((m : Nat) : Int) < (L.length : Int) := by omega
                      have HRR : Hid (TA = 0 → apartM L[k] L[m] = false) := Lib.hid (fun h => by
                        have h1 := HZ.out h
                        cases h2 : apartM L[k] L[m] with
                        | false => rfl
                        | true => rw [(apL_iff _ _).2 ⟨_, List.getElem_mem hlt, .inr ⟨_, List.getElem_mem hml, h2⟩⟩] at h1; cases h1)
                      have HAR := Lib.hid (fun W (hW : Below w6.heap.size w6 W) => HAR.out L[k] L[m] W (HB.out.trans (hW.mono HB.out.size)))
                      have HM := Lib.hid hlm
                      generalize L[k] = x at *
                      generalize L[m] = y at *
                      clear hc hcell hb hbb hbel hm hml HCE
                      cases b with
                      | true =>
                        go_wp2_with fail
                        refine Any.region_lit (fun
                          | 0 => Any.val (.bool true)
                          | 1 => Any.val (.bool true)
                          | 2 => Any.idle
                          | 3 => Any.idle
                          | 4 => Any.idle
                          | 5 => Any.idle
                          | 6 => Any.idle
                          | 7 => Any.idle
                          | 8 => Any.idle
                          | 9 => Any.idle
                          | 10 => Any.idle
                          | 11 => Any.val (.bool true)
                          | 12 => Any.val (.bool true)
                          | _ => Any.idle) (by kernel_rfl) (by kernel_rfl) (by kernel_rfl) ?_ ?_ ?_
                        · intro i _
                          match i with
                          | 0 => exact Any.lasts_val _
                          | 1 => exact Any.lasts_val _
                          | 2 => exact Any.lasts_idle
                          | 3 => exact Any.lasts_idle
                          | 4 => exact Any.lasts_idle
                          | 5 => exact Any.lasts_idle
                          | 6 => exact Any.lasts_idle
                          | 7 => exact Any.lasts_idle
                          | 8 => exact Any.lasts_idle
                          | 9 => exact Any.lasts_idle
                          | 10 => exact Any.lasts_idle
                          | 11 => exact Any.lasts_val _
                          | 12 => exact Any.lasts_val _
                          | n + 13 => exact Any.lasts_idle
                        · refine ⟨?_, ?_, ?_, ?_, ?_, ?_, ?_, ?_, ?_, ?_, ?_, ?_, ?_, trivial⟩
                          · refine Any.owes_plain rfl fun ρ wo hs' hb hc' => ?_
                            have h19 : ρ (.tmp 19) = .bool true := hs'.old' 19 (by kernel_rfl)
                            exact Any.ok_move (Any.post_val hb rfl h19)
                          · refine Any.owes_plain rfl fun ρ wo hs' hb hc' => ?_
                            have h179 : ρ (.tmp 179) = .bool true := hs'.new' 179 0 (by kernel_rfl)
                            exact Any.ok_move (Any.post_val hb rfl h179)
                          · exact Any.owes_off rfl rfl (by kernel_rfl) rfl (by decide) rfl
                          · exact Any.owes_off rfl rfl (by kernel_rfl) rfl (by decide) rfl
                          · exact Any.owes_off rfl rfl (by kernel_rfl) rfl (by decide) rfl
                          · exact Any.owes_off rfl rfl (by kernel_rfl) rfl (by decide) rfl
                          · exact Any.owes_off rfl rfl (by kernel_rfl) rfl (by decide) rfl
                          · exact Any.owes_off rfl rfl (by kernel_rfl) rfl (by decide) rfl
                          · exact Any.owes_off rfl rfl (by kernel_rfl) rfl (by decide) rfl
                          · exact Any.owes_off rfl rfl (by kernel_rfl) rfl (by decide) rfl
                          · exact Any.owes_off rfl rfl (by kernel_rfl) rfl (by decide) rfl
                          · refine Any.owes_plain rfl fun ρ wo hs' hb hc' => ?_
                            have h180 : ρ (.tmp 180) = .bool true := hs'.new' 180 1 (by kernel_rfl)
                            go_simp
                            exact Any.post_val hb rfl rfl
                          · refine Any.owes_plain rfl fun ρ wo hs' hb hc' => ?_
                            have h190 : ρ (.tmp 190) = .bool true := hs'.new' 190 11 (by kernel_rfl)
                            exact Any.ok_assign (Any.post_val hb rfl h190)
                        · intro vals w9 hb hk ha
                          have h12 : vals 12 = .bool true := hk 12 (by kernel_rfl)
                          have HB9 := Lib.hid (HBL.out.trans (hb.mono HBL.out.size))
                          clear hk ha hb
                          simp only [Any.putAll]
                          go_frame
                          simp only [Nat.zero_add, Nat.reduceAdd]
                          rw [h12]
                          clear h12
                          go_wp2_with fail
                          go_roundw
                          case rel => exact ⟨m + 1, true, by have := HM.out; omega, by go_num, rfl, HBB.out, HB9.out⟩
                          case measure => have := HM.out; (simp [intOf]) <;> omega
                      | false =>
                        generalize apartM x y = r at *
                        go_wp2_with fail
                        refine Any.region_lit (fun
                          | 0 => Any.val (.bool false)
                          | 1 => Any.val (.bool false)
                          | 2 => Any.val (.slice (some ⟨bl, ol, none⟩) (List.length L) c3)
                          | 3 => Any.val (.int .i64 (k : Int))
                          | 4 => Any.val (.pointer (some ⟨bl, ol + k, none⟩))
                          | 5 => Any.val (.int .i64 x)
                          | 6 => Any.val (.slice (some ⟨bl, ol, none⟩) (List.length L) c3)
                          | 7 => Any.val (.int .i64 (m : Int))
                          | 8 => Any.val (.pointer (some ⟨bl, ol + m, none⟩))
                          | 9 => Any.val (.int .i64 y)
                          | 10 => Any.val (.bool r)
                          | 11 => Any.val (.bool r)
                          | 12 => Any.val (.bool r)
                          | _ => Any.idle) (by kernel_rfl) (by kernel_rfl) (by kernel_rfl) ?_ ?_ ?_
                        · intro i _
                          match i with
                          | 0 => exact Any.lasts_val _
                          | 1 => exact Any.lasts_val _
                          | 2 => exact Any.lasts_val _
                          | 3 => exact Any.lasts_val _
                          | 4 => exact Any.lasts_val _
                          | 5 => exact Any.lasts_val _
                          | 6 => exact Any.lasts_val _
                          | 7 => exact Any.lasts_val _
                          | 8 => exact Any.lasts_val _
                          | 9 => exact Any.lasts_val _
                          | 10 => exact Any.lasts_val _
                          | 11 => exact Any.lasts_val _
                          | 12 => exact Any.lasts_val _
                          | n + 13 => exact Any.lasts_idle
                        · refine ⟨?_, ?_, ?_, ?_, ?_, ?_, ?_, ?_, ?_, ?_, ?_, ?_, ?_, trivial⟩
                          · refine Any.owes_plain rfl fun ρ wo hs' hb hc' => ?_
                            have h19 : ρ (.tmp 19) = .bool false := hs'.old' 19 (by kernel_rfl)
                            exact Any.ok_move (Any.post_val hb rfl h19)
                          · refine Any.owes_plain rfl fun ρ wo hs' hb hc' => ?_
                            have h179 : ρ (.tmp 179) = .bool false := hs'.new' 179 0 (by kernel_rfl)
                            exact Any.ok_move (Any.post_val hb rfl h179)
                          · refine Any.owes_on rfl rfl (by kernel_rfl) rfl fun ρ wo hs' hb hc' => ?_
                            have h14 : ρ (.tmp 14) = .slice (some ⟨bl, ol, none⟩) (List.length L) c3 := hs'.old' 14 (by kernel_rfl)
                            exact Any.ok_move (Any.post_val hb rfl h14)
                          · refine Any.owes_on rfl rfl (by kernel_rfl) rfl fun ρ wo hs' hb hc' => ?_
                            have h20 : ρ (.tmp 20) = .int .i64 (k : Int) := hs'.old' 20 (by kernel_rfl)
                            exact Any.ok_move (Any.post_val hb rfl h20)
                          · refine Any.owes_on rfl rfl (by kernel_rfl) rfl fun ρ wo hs' hb hc' => ?_
                            have h181 : ρ (.tmp 181) = .slice (some ⟨bl, ol, none⟩) (List.length L) c3 := hs'.new' 181 2 (by kernel_rfl)
                            have h182 : ρ (.tmp 182) = .int .i64 (k : Int) := hs'.new' 182 3 (by kernel_rfl)
                            go_simp
                            exact Any.post_val hb rfl rfl
                          · refine Any.owes_on rfl rfl (by kernel_rfl) rfl fun ρ wo hs' hb hc' => ?_
                            have h183 : ρ (.tmp 183) = .pointer (some ⟨bl, ol + k, none⟩) := hs'.new' 183 4 (by kernel_rfl)
                            have c0 := HX.out wo (HBL.out.trans ((below_undrew hb).mono HBL.out.size))
                            go_simp
                            exact Any.post_val hb rfl rfl
                          · refine Any.owes_on rfl rfl (by kernel_rfl) rfl fun ρ wo hs' hb hc' => ?_
                            have h14 : ρ (.tmp 14) = .slice (some ⟨bl, ol, none⟩) (List.length L) c3 := hs'.old' 14 (by kernel_rfl)
                            exact Any.ok_move (Any.post_val hb rfl h14)
                          · refine Any.owes_on rfl rfl (by kernel_rfl) rfl fun ρ wo hs' hb hc' => ?_
                            have h21 : ρ (.tmp 21) = .int .i64 (m : Int) := hs'.old' 21 (by kernel_rfl)
                            exact Any.ok_move (Any.post_val hb rfl h21)
                          · refine Any.owes_on rfl rfl (by kernel_rfl) rfl fun ρ wo hs' hb hc' => ?_
                            have h185 : ρ (.tmp 185) = .slice (some ⟨bl, ol, none⟩) (List.length L) c3 := hs'.new' 185 6 (by kernel_rfl)
                            have h186 : ρ (.tmp 186) = .int .i64 (m : Int) := hs'.new' 186 7 (by kernel_rfl)
                            go_simp
                            exact Any.post_val hb rfl rfl
                          · refine Any.owes_on rfl rfl (by kernel_rfl) rfl fun ρ wo hs' hb hc' => ?_
                            have h187 : ρ (.tmp 187) = .pointer (some ⟨bl, ol + m, none⟩) := hs'.new' 187 8 (by kernel_rfl)
                            have c0 := HY.out wo (HBL.out.trans ((below_undrew hb).mono HBL.out.size))
                            go_simp
                            exact Any.post_val hb rfl rfl
                          · refine Any.owes_on rfl rfl (by kernel_rfl) rfl fun ρ wo hs' hb hc' => ?_
                            have h184 : ρ (.tmp 184) = .int .i64 x := hs'.new' 184 5 (by kernel_rfl)
                            have h188 : ρ (.tmp 188) = .int .i64 y := hs'.new' 188 9 (by kernel_rfl)
                            have hf := hs'.func 11
                            go_simp
                            exact (HAR.out wo (HBL.out.trans ((below_undrew hb).mono HBL.out.size))).mono fun e w' ⟨he, hb'⟩ => ⟨_, he, Any.post_vals hb rfl rfl hb'⟩
                          · refine Any.owes_plain rfl fun ρ wo hs' hb hc' => ?_
                            have h180 : ρ (.tmp 180) = .bool false := hs'.new' 180 1 (by kernel_rfl)
                            have h189 : ρ (.tmp 189) = .bool r := hs'.new' 189 10 (by kernel_rfl)
                            go_simp
                            exact Any.post_val hb rfl rfl
                          · refine Any.owes_plain rfl fun ρ wo hs' hb hc' => ?_
                            have h190 : ρ (.tmp 190) = .bool r := hs'.new' 190 11 (by kernel_rfl)
                            exact Any.ok_assign (Any.post_val hb rfl h190)
                        · intro vals w9 hb hk ha
                          have h12 : vals 12 = .bool r := hk 12 (by kernel_rfl)
                          have HB9 := Lib.hid (HBL.out.trans (hb.mono HBL.out.size))
                          clear hk ha hb
                          simp only [Any.putAll]
                          go_frame
                          simp only [Nat.zero_add, Nat.reduceAdd]
                          rw [h12]
                          clear h12
                          go_wp2_with fail
                          go_roundw
                          case rel => exact ⟨m + 1, r, by have := HM.out; omega, by go_num, rfl, HRR.out, HB9.out⟩
                          case measure => have := HM.out; (simp [intOf]) <;> omega
                    · clear hbb hbel
                      go_wp2_with fail
                      go_roundw
                      case rel => exact ⟨k + 1, b, by have := HK.out; omega, by go_num, rfl, HBB.out, HBL.out⟩
                      case measure => have := HK.out; (simp [intOf]) <;> omega
                · clear hbel
                  by_cases hA : TA = 0
                  · obtain rfl := hbb hA
                    subst hA
                    go_wp2_with fail
                    go_ret
                    exact ⟨rfl, HB.out.trans (HBL.out.mono HB.out.size)⟩
                  · have tA : (TA != 0) = true := by simp [hA]
                    clear hbb hA
                    go_wp2_with fail
                    go_ret
                    exact ⟨rfl, HB.out.trans (HBL.out.mono HB.out.size)⟩

theorem lifted (os : Os) (started : os.Started) (H : Type) (enc : TypeId × Value → H) :
    ReturnsInHanded {} Tryd.checked os 8 .any (fun w args => (Rows.goodsPartsSpec.pre enc Tryd.prog Tryd.f8 [] false w args ∧ laidMetH Tryd.prog laidA w) ∧ sizedMet enc Tryd.prog Tryd.f8 (OpenSpec.ofChange Rows.goodsPartsSpec) false w args) (Rows.goodsPartsSpec.post enc Tryd.prog Tryd.f8 false true false false) := by
  refine law_liftedD os started (by kernel_rfl) Tryd.func8
    (ChangeSpec.witness_shaped (enc := enc) (C := Tryd.checked) (os := os) (X := fun w _ => laidMetH Tryd.prog laidA w) false (World.doorLaid Tryd.prog 400 os) #[.slice none 0 0, .slice none 0 0, .int .i64 0] 8 rfl (World.shaped_of_RefB (by kernel_rfl) (by kernel_rfl)) (by kernel_rfl) (by kernel_rfl) (by kernel_rfl) (door_met os _))
    (by kernel_rfl) rfl rfl ?_ ?_
  · intro vs ds W p hA
    rw [Tryd.params8] at hA
    obtain ⟨v0, vs0, d0, ds0, p0, q0, rfl, rfl, rfl, h0, r0⟩ := trodAll_cons hA
    obtain ⟨v1, vs1, d1, ds1, p1, q1, rfl, rfl, rfl, h1, r1⟩ := trodAll_cons r0
    obtain ⟨v2, vs2, d2, ds2, p2, q2, rfl, rfl, rfl, h2, r2⟩ := trodAll_cons r1
    obtain ⟨rfl, rfl, rfl⟩ := trodAll_nil r2
    rfl
  · intro W base args ds p hap hval hA
    rw [Tryd.params8] at hA hval
    obtain ⟨v0, vs0, d0, ds0, p0, q0, hargs, rfl, rfl, h0, r0⟩ := trodAll_cons hA
    obtain ⟨v1, vs1, d1, ds1, p1, q1, rfl, rfl, rfl, h1, r1⟩ := trodAll_cons r0
    obtain ⟨v2, vs2, d2, ds2, p2, q2, rfl, rfl, rfl, h2, r2⟩ := trodAll_cons r1
    obtain ⟨rfl, rfl, rfl⟩ := trodAll_nil r2
    obtain rfl : args = #[v0, v1, v2] := by cases args; simp_all
    obtain ⟨l0, hs0, hf0⟩ := open_goods (hval 0 24 v0 rfl rfl) h0
    obtain ⟨l1, hs1, hf1⟩ := open_lots (hval 1 25 v1 rfl rfl) h1
    obtain ⟨a2, rfl, rfl, rfl, w2⟩ := open_int Tryd.underlying3 (hval 2 3 v2 rfl rfl) h2
    exact walk W hap l0 v0 hs0 hf0 l1 v1 hs1 hf1 a2 w2

theorem over : Rows.goodsPartsRow.holds Tryd.pinned (OpenSpec.ofChange Rows.goodsPartsSpec) :=
  OpenClaim.holds_of_wide 8 Tryd.f8 rfl rfl rfl rfl rfl rfl rfl ⟨rfl, rfl, rfl, rfl, rfl⟩ rfl rfl rfl rfl rfl (by kernel_rfl) Tryd.func8 (by kernel_rfl)
    (of_decide_eq_true (by kernel_rfl)) (by unfold Func.isWrapper; rw [if_neg (by decide +kernel)]; exact ⟨rfl, rfl⟩)
    (fun os started H enc _ => lifted os started H enc)

/-- The statement. -/
theorem proved : Rows.GoodsPartsCardSaid :=
  Claim7.holds_tied_plain_at .later [] [.data] true _ false
    over (fun _ h => by cases h) (by kernel_rfl) (fun _ h => by cases h) goodsParts_row_tie rfl ⟨rfl, rfl⟩ (by kernel_rfl) rfl
    (fun f fn hf hfn => by
      obtain rfl : f = 8 := Option.some.inj (hf.symm.trans (by kernel_rfl))
      obtain rfl : fn = Tryd.f8 := (Option.some.inj (Tryd.func8.symm.trans hfn)).symm
      exact ⟨by kernel_rfl, fun j t ht => by
        have hall : (Tryd.f8.params.toList.all fun u => !Tryd.prog.wantsStandIn u) = true := by kernel_rfl
        have hm : t ∈ Tryd.f8.params.toList := by simpa using Array.mem_of_getElem? ht
        exact (show Tryd.prog.wantsStandIn t = false by simpa using List.all_eq_true.1 hall t hm)⟩)
    (by kernel_rfl)
#print axioms proved
end Go.Proofs.YtogkggmaibeboaaDoor.goodsParts
