/- Whether any voyage may be, its text, and where it calls, are the document's. No condition. -/
import Derived.Test.YtbmjficiceiekaaDoorAwake16
import Derived.Test.YtbmjficiceiekaaDoorLawD16
import Derived.Test.YtbmjficiceiekaaDoorRefText16
import Derived.Test.YtbmjficiceiekaaDoorIdx16
namespace Go.Proofs.YtbmjficiceiekaaDoor.portMays
open Go.ChangeShapes Go.WideShapes Go.ChangeAt Go.RowKit Go Sc
set_option maxRecDepth 100000

set_option maxHeartbeats 16000000 in
theorem walk (w : World) (hap : TabW w) (t : Vm) (hs0 : Sl w 4 t.val (t.calls.map Cl.row)) (hf0 : t.fit) (p : ByteArray) (_ : p.size ≤ maxLen) (f : Int) (_ : (Lit.int .i64 f).wf = true) :
    Calls Tryd.prog 6 #[.agg #[.string t.ship, t.val], .string p, .int .i64 f] w (RetB w true) := by
  obtain ⟨s, v, l⟩ := t
  obtain ⟨hm, hmc⟩ := hf0
  simp only at hs0 hm hmc ⊢
  obtain ⟨a, c, rfl⟩ : ∃ a c, v = .slice a l.length c := by simpa using hs0.shape
  have HS := Lib.hid hs0
  have HAW := Lib.hid (fun W (hW : Below w.heap.size w W) => awake_any W (hap.below hW))
  have HIX := Lib.hid (fun W (hW : Below w.heap.size w W) => index_any s p _ l f W (hs0.below hW (Nat.le_refl _)))
  have HRI := Lib.hid (fun W (hW : Below w.heap.size w W) => refIndex_any s p _ l f W (hs0.below hW (Nat.le_refl _)))
  have HR0 := Lib.hid (fun W (hW : Below w.heap.size w W) => refIndex_any s p _ l 0 W (hs0.below hW (Nat.le_refl _)))
  have HAR := Lib.hid (fun W (hW : Below w.heap.size w W) => arrives_any s p _ l W (hs0.below hW (Nat.le_refl _)))
  have HMY := Lib.hid (fun W (hW : Below w.heap.size w W) => mayP_any s _ l W (hs0.below hW (Nat.le_refl _)))
  have HRM := Lib.hid (fun W (hW : Below w.heap.size w W) => refMayP_any s _ l W (hs0.below hW (Nat.le_refl _)) hm hmc)
  have HTX := Lib.hid (fun W (hW : Below w.heap.size w W) => text_any s _ l W (hs0.below hW (Nat.le_refl _)) (hap.below hW))
  have HRT := Lib.hid (fun W (hW : Below w.heap.size w W) => refText_any s _ l W (hs0.below hW (Nat.le_refl _)) hm hmc)
  have HX := Lib.hid (heap_alloc_new w (.cells #[.string s, .slice a l.length c] 32))
  have HB := Lib.hid (one_below w (.cells #[.string s, .slice a l.length c] 32))
  have hll : l.length ≤ 9223372036854775807 := by have := hs0.len_le; simp only [List.length_map, maxLen] at this; omega
  have y0 := cell_blk HX.out 0
  have y1 := cell_blk HX.out 1
  have HO : Hid (∀ k, idxO l p 0 = some k → k < l.length) := Lib.hid fun k h => idxO_lt h
  clear hap hs0 hm hmc
  by_cases h70 : 70 < l.length
  · have t1 : decide ((70 : Int) < (l.length : Int)) = true := decide_eq_true (by omega)
    have t1' : decide (70 < l.length) = true := decide_eq_true h70
    clear h70
    go_enter Tryd.func6, Tryd.ntmps6
    go_wp2_with (first
      | ((with_reducible refine (HAW.out _ HB.out).mono ?_); rintro e wa ⟨rfl, hba⟩; have HB := Lib.hid (HB.out.trans (hba.mono HB.out.size)); have HX := Lib.hid (blk hba (lt_blk HX.out) HX.out); clear y0 y1; have y0 := cell_blk HX.out 0; have y1 := cell_blk HX.out 1; clear hba)
      | fail)
    go_ret
    exact ⟨rfl, HB.out⟩
  have t1 : decide ((70 : Int) < (l.length : Int)) = false := decide_eq_false (by omega)
  have t1' : decide (70 < l.length) = false := decide_eq_false h70
  generalize mayV s l = r at *
  generalize textV s l = tx at *
  obtain ⟨m1, hm1⟩ : ∃ m, idxI none = m := ⟨_, rfl⟩
  have t2 : decide ((0 : Int) ≤ m1) = false := by rw [← hm1]; decide
  have t3 : decide (m1 < (0 : Int)) = true := by rw [← hm1]; decide
  have t3' : (m1 != m1) = false := by simp
  obtain ⟨j, hj⟩ : ∃ j, idxI (idxO l p f) = j := ⟨_, rfl⟩
  have t4 : (j != j) = false := by simp
  have t5 : decide ((0 : Int) ≤ j) = (idxO l p f).isSome := by
    rw [← hj]
    cases idxO l p f with
    | none => rfl
    | some k => exact decide_eq_true (Int.natCast_nonneg k)
  rw [hj] at HIX HRI
  generalize (idxO l p f).isSome = b1 at *
  have t6 : (b1 != b1) = false := by simp
  generalize idxO l p 0 = o at *
  clear h70 hj
  rcases o with - | k
  · rw [hm1] at HR0
    simp only [Option.isSome_none, arrI, Option.bind_none] at HAR
    clear hm1
    go_enter Tryd.func6, Tryd.ntmps6
    go_wp2_with (first
      | ((with_reducible refine (HAW.out _ HB.out).mono ?_); rintro e wa ⟨rfl, hba⟩; have HB := Lib.hid (HB.out.trans (hba.mono HB.out.size)); have HX := Lib.hid (blk hba (lt_blk HX.out) HX.out); clear y0 y1; have y0 := cell_blk HX.out 0; have y1 := cell_blk HX.out 1; clear hba)
      | ((with_reducible refine (HIX.out _ HB.out).mono ?_); rintro e wb ⟨rfl, hbb⟩; have HB := Lib.hid (HB.out.trans (hbb.mono HB.out.size)); have HX := Lib.hid (blk hbb (lt_blk HX.out) HX.out); clear y0 y1; have y0 := cell_blk HX.out 0; have y1 := cell_blk HX.out 1; clear hbb)
      | ((with_reducible refine (HRI.out _ HB.out).mono ?_); rintro e wc ⟨rfl, hbc⟩; have HB := Lib.hid (HB.out.trans (hbc.mono HB.out.size)); have HX := Lib.hid (blk hbc (lt_blk HX.out) HX.out); clear y0 y1; have y0 := cell_blk HX.out 0; have y1 := cell_blk HX.out 1; clear hbc)
      | ((with_reducible refine (HAR.out _ HB.out).mono ?_); rintro e wd ⟨rfl, hbd⟩; have HB := Lib.hid (HB.out.trans (hbd.mono HB.out.size)); have HX := Lib.hid (blk hbd (lt_blk HX.out) HX.out); clear y0 y1; have y0 := cell_blk HX.out 0; have y1 := cell_blk HX.out 1; clear hbd)
      | ((with_reducible refine (HR0.out _ HB.out).mono ?_); rintro e we ⟨rfl, hbe⟩; have HB := Lib.hid (HB.out.trans (hbe.mono HB.out.size)); have HX := Lib.hid (blk hbe (lt_blk HX.out) HX.out); clear y0 y1; have y0 := cell_blk HX.out 0; have y1 := cell_blk HX.out 1; clear hbe)
      | fail)
    refine Any.region_lit (fun
      | 0 => Any.val (.agg #[.string s, .slice a l.length c])
      | 1 => Any.val (.bool r)
      | 2 => Any.val (.agg #[.string s, .slice a l.length c])
      | 3 => Any.val (.bool r)
      | 4 => Any.val (.bool true)
      | 5 => Any.val (.bool true)
      | 6 => Any.val (.agg #[.string s, .slice a l.length c])
      | 7 => Any.val (.string tx)
      | 8 => Any.val (.agg #[.string s, .slice a l.length c])
      | 9 => Any.val (.string tx)
      | 10 => Any.val (.bool true)
      | 11 => Any.val (.bool true)
      | 12 => Any.val (.bool true)
      | _ => Any.idle) (by kernel_rfl) (by kernel_rfl) (by kernel_rfl) ?_ ?_ ?_
    · intro i _
      match i with
      | 0 => exact Any.lasts_val _
      | 1 => exact Any.lasts_val _
      | 2 => exact Any.lasts_val _
      | 3 => exact Any.lasts_val _
      | 4 => exact Any.lasts_val _
      | 5 => exact Any.lasts_val _
      | 6 => exact Any.lasts_val _
      | 7 => exact Any.lasts_val _
      | 8 => exact Any.lasts_val _
      | 9 => exact Any.lasts_val _
      | 10 => exact Any.lasts_val _
      | 11 => exact Any.lasts_val _
      | 12 => exact Any.lasts_val _
      | n + 13 => exact Any.lasts_idle
    · refine ⟨?_, ?_, ?_, ?_, ?_, ?_, ?_, ?_, ?_, ?_, ?_, ?_, ?_, trivial⟩
      · refine Any.owes_plain rfl fun ρ wo hs' hb hc' => ?_
        have h3 : ρ (.tmp 3) = .pointer (some ⟨w.heap.size, 0, none⟩) := hs'.old' 3 (by kernel_rfl)
        have c0 := cell_blk (blk (below_undrew hb) (lt_blk HX.out) HX.out) 0
        have c1 := cell_blk (blk (below_undrew hb) (lt_blk HX.out) HX.out) 1
        go_simp
        exact Any.post_val hb rfl rfl
      · refine Any.owes_plain rfl fun ρ wo hs' hb hc' => ?_
        have h79 : ρ (.tmp 79) = .agg #[.string s, .slice a l.length c] := hs'.new' 79 0 (by kernel_rfl)
        have hf := hs'.func 21
        go_simp
        exact (HMY.out wo (HB.out.trans ((below_undrew hb).mono HB.out.size))).mono fun e w' ⟨he, hb'⟩ => ⟨_, he, Any.post_vals hb rfl rfl hb'⟩
      · refine Any.owes_plain rfl fun ρ wo hs' hb hc' => ?_
        have h3 : ρ (.tmp 3) = .pointer (some ⟨w.heap.size, 0, none⟩) := hs'.old' 3 (by kernel_rfl)
        have c0 := cell_blk (blk (below_undrew hb) (lt_blk HX.out) HX.out) 0
        have c1 := cell_blk (blk (below_undrew hb) (lt_blk HX.out) HX.out) 1
        go_simp
        exact Any.post_val hb rfl rfl
      · refine Any.owes_plain rfl fun ρ wo hs' hb hc' => ?_
        have h81 : ρ (.tmp 81) = .agg #[.string s, .slice a l.length c] := hs'.new' 81 2 (by kernel_rfl)
        have hf := hs'.func 22
        go_simp
        exact (HRM.out wo (HB.out.trans ((below_undrew hb).mono HB.out.size))).mono fun e w' ⟨he, hb'⟩ => ⟨_, he, Any.post_vals hb rfl rfl hb'⟩
      · refine Any.owes_plain rfl fun ρ wo hs' hb hc' => ?_
        have h80 : ρ (.tmp 80) = .bool r := hs'.new' 80 1 (by kernel_rfl)
        have h82 : ρ (.tmp 82) = .bool r := hs'.new' 82 3 (by kernel_rfl)
        have t1 : (r == r) = true := by simp
        go_simp
        exact Any.post_val hb rfl rfl
      · refine Any.owes_plain rfl fun ρ wo hs' hb hc' => ?_
        have h83 : ρ (.tmp 83) = .bool true := hs'.new' 83 4 (by kernel_rfl)
        exact Any.ok_move (Any.post_val hb rfl h83)
      · refine Any.owes_on rfl rfl (by kernel_rfl) rfl fun ρ wo hs' hb hc' => ?_
        have h3 : ρ (.tmp 3) = .pointer (some ⟨w.heap.size, 0, none⟩) := hs'.old' 3 (by kernel_rfl)
        have c0 := cell_blk (blk (below_undrew hb) (lt_blk HX.out) HX.out) 0
        have c1 := cell_blk (blk (below_undrew hb) (lt_blk HX.out) HX.out) 1
        go_simp
        exact Any.post_val hb rfl rfl
      · refine Any.owes_on rfl rfl (by kernel_rfl) rfl fun ρ wo hs' hb hc' => ?_
        have h85 : ρ (.tmp 85) = .agg #[.string s, .slice a l.length c] := hs'.new' 85 6 (by kernel_rfl)
        have hf := hs'.func 23
        go_simp
        exact (HTX.out wo (HB.out.trans ((below_undrew hb).mono HB.out.size))).mono fun e w' ⟨he, hb'⟩ => ⟨_, he, Any.post_vals hb rfl rfl hb'⟩
      · refine Any.owes_on rfl rfl (by kernel_rfl) rfl fun ρ wo hs' hb hc' => ?_
        have h3 : ρ (.tmp 3) = .pointer (some ⟨w.heap.size, 0, none⟩) := hs'.old' 3 (by kernel_rfl)
        have c0 := cell_blk (blk (below_undrew hb) (lt_blk HX.out) HX.out) 0
        have c1 := cell_blk (blk (below_undrew hb) (lt_blk HX.out) HX.out) 1
        go_simp
        exact Any.post_val hb rfl rfl
      · refine Any.owes_on rfl rfl (by kernel_rfl) rfl fun ρ wo hs' hb hc' => ?_
        have h87 : ρ (.tmp 87) = .agg #[.string s, .slice a l.length c] := hs'.new' 87 8 (by kernel_rfl)
        have hf := hs'.func 24
        go_simp
        exact (HRT.out wo (HB.out.trans ((below_undrew hb).mono HB.out.size))).mono fun e w' ⟨he, hb'⟩ => ⟨_, he, Any.post_vals hb rfl rfl hb'⟩
      · refine Any.owes_on rfl rfl (by kernel_rfl) rfl fun ρ wo hs' hb hc' => ?_
        have h86 : ρ (.tmp 86) = .string tx := hs'.new' 86 7 (by kernel_rfl)
        have h88 : ρ (.tmp 88) = .string tx := hs'.new' 88 9 (by kernel_rfl)
        have t1 : (tx.toList == tx.toList) = true := by simp
        go_simp
        exact Any.post_val hb rfl rfl
      · refine Any.owes_plain rfl fun ρ wo hs' hb hc' => ?_
        have h84 : ρ (.tmp 84) = .bool true := hs'.new' 84 5 (by kernel_rfl)
        have h89 : ρ (.tmp 89) = .bool true := hs'.new' 89 10 (by kernel_rfl)
        go_simp
        exact Any.post_val hb rfl rfl
      · refine Any.owes_plain rfl fun ρ wo hs' hb hc' => ?_
        have h90 : ρ (.tmp 90) = .bool true := hs'.new' 90 11 (by kernel_rfl)
        exact Any.ok_assign (Any.post_val hb rfl h90)
    intro vals wz hb hk ha
    have h12 : vals 12 = .bool true := hk 12 (by kernel_rfl)
    have HBZ := Lib.hid (HB.out.trans (hb.mono HB.out.size))
    clear hk ha hb
    simp only [Any.putAll]
    go_frame
    simp only [Nat.zero_add, Nat.reduceAdd]
    rw [h12]
    clear h12
    go_wp2_with fail
    go_ret
    exact ⟨rfl, HBZ.out⟩
  · have hlt := HO.out k rfl
    have HA : Hid (arrI l (some k) = l[k].arr) := Lib.hid (by rw [arrI, Option.bind_some, List.getElem?_eq_getElem hlt])
    obtain ⟨b, off, rfl, hb, hp⟩ := cl_at HS.out hlt
    have HD2 := Lib.hid (fun W (hW : Below w.heap.size w W) => (hp.below hb hW).2.2.1)
    clear hp hb
    obtain ⟨q, hq⟩ : ∃ q, l[k].arr = q := ⟨_, rfl⟩
    rw [hq] at HA HD2
    have hki : ((k : Nat) : Int) < (l.length : Int) := by omega
    have t7 : (q != q) = false := by simp
    rw [HA.out] at HAR
    clear hlt hq HA hm1 t2 t3
    simp only [idxI] at HR0
    simp only [Option.isSome_some] at HAR
    go_enter Tryd.func6, Tryd.ntmps6
    go_wp2_with (first
      | ((with_reducible refine (HAW.out _ HB.out).mono ?_); rintro e wa ⟨rfl, hba⟩; have HB := Lib.hid (HB.out.trans (hba.mono HB.out.size)); have HX := Lib.hid (blk hba (lt_blk HX.out) HX.out); clear y0 y1; have y0 := cell_blk HX.out 0; have y1 := cell_blk HX.out 1; have d2 := HD2.out _ HB.out; clear hba)
      | ((with_reducible refine (HIX.out _ HB.out).mono ?_); rintro e wb ⟨rfl, hbb⟩; have HB := Lib.hid (HB.out.trans (hbb.mono HB.out.size)); have HX := Lib.hid (blk hbb (lt_blk HX.out) HX.out); clear y0 y1; have y0 := cell_blk HX.out 0; have y1 := cell_blk HX.out 1; have d2 := HD2.out _ HB.out; clear hbb)
      | ((with_reducible refine (HRI.out _ HB.out).mono ?_); rintro e wc ⟨rfl, hbc⟩; have HB := Lib.hid (HB.out.trans (hbc.mono HB.out.size)); have HX := Lib.hid (blk hbc (lt_blk HX.out) HX.out); clear y0 y1; have y0 := cell_blk HX.out 0; have y1 := cell_blk HX.out 1; have d2 := HD2.out _ HB.out; clear hbc)
      | ((with_reducible refine (HAR.out _ HB.out).mono ?_); rintro e wd ⟨rfl, hbd⟩; have HB := Lib.hid (HB.out.trans (hbd.mono HB.out.size)); have HX := Lib.hid (blk hbd (lt_blk HX.out) HX.out); clear y0 y1; have y0 := cell_blk HX.out 0; have y1 := cell_blk HX.out 1; have d2 := HD2.out _ HB.out; clear hbd)
      | ((with_reducible refine (HR0.out _ HB.out).mono ?_); rintro e we ⟨rfl, hbe⟩; have HB := Lib.hid (HB.out.trans (hbe.mono HB.out.size)); have HX := Lib.hid (blk hbe (lt_blk HX.out) HX.out); clear y0 y1; have y0 := cell_blk HX.out 0; have y1 := cell_blk HX.out 1; have d2 := HD2.out _ HB.out; clear hbe)
      | fail)
    refine Any.region_lit (fun
      | 0 => Any.val (.agg #[.string s, .slice (some ⟨b, off, none⟩) l.length c])
      | 1 => Any.val (.bool r)
      | 2 => Any.val (.agg #[.string s, .slice (some ⟨b, off, none⟩) l.length c])
      | 3 => Any.val (.bool r)
      | 4 => Any.val (.bool true)
      | 5 => Any.val (.bool true)
      | 6 => Any.val (.agg #[.string s, .slice (some ⟨b, off, none⟩) l.length c])
      | 7 => Any.val (.string tx)
      | 8 => Any.val (.agg #[.string s, .slice (some ⟨b, off, none⟩) l.length c])
      | 9 => Any.val (.string tx)
      | 10 => Any.val (.bool true)
      | 11 => Any.val (.bool true)
      | 12 => Any.val (.bool true)
      | _ => Any.idle) (by kernel_rfl) (by kernel_rfl) (by kernel_rfl) ?_ ?_ ?_
    · intro i _
      match i with
      | 0 => exact Any.lasts_val _
      | 1 => exact Any.lasts_val _
      | 2 => exact Any.lasts_val _
      | 3 => exact Any.lasts_val _
      | 4 => exact Any.lasts_val _
      | 5 => exact Any.lasts_val _
      | 6 => exact Any.lasts_val _
      | 7 => exact Any.lasts_val _
      | 8 => exact Any.lasts_val _
      | 9 => exact Any.lasts_val _
      | 10 => exact Any.lasts_val _
      | 11 => exact Any.lasts_val _
      | 12 => exact Any.lasts_val _
      | n + 13 => exact Any.lasts_idle
    · refine ⟨?_, ?_, ?_, ?_, ?_, ?_, ?_, ?_, ?_, ?_, ?_, ?_, ?_, trivial⟩
      · refine Any.owes_plain rfl fun ρ wo hs' hb hc' => ?_
        have h3 : ρ (.tmp 3) = .pointer (some ⟨w.heap.size, 0, none⟩) := hs'.old' 3 (by kernel_rfl)
        have c0 := cell_blk (blk (below_undrew hb) (lt_blk HX.out) HX.out) 0
        have c1 := cell_blk (blk (below_undrew hb) (lt_blk HX.out) HX.out) 1
        go_simp
        exact Any.post_val hb rfl rfl
      · refine Any.owes_plain rfl fun ρ wo hs' hb hc' => ?_
        have h79 : ρ (.tmp 79) = .agg #[.string s, .slice (some ⟨b, off, none⟩) l.length c] := hs'.new' 79 0 (by kernel_rfl)
        have hf := hs'.func 21
        go_simp
        exact (HMY.out wo (HB.out.trans ((below_undrew hb).mono HB.out.size))).mono fun e w' ⟨he, hb'⟩ => ⟨_, he, Any.post_vals hb rfl rfl hb'⟩
      · refine Any.owes_plain rfl fun ρ wo hs' hb hc' => ?_
        have h3 : ρ (.tmp 3) = .pointer (some ⟨w.heap.size, 0, none⟩) := hs'.old' 3 (by kernel_rfl)
        have c0 := cell_blk (blk (below_undrew hb) (lt_blk HX.out) HX.out) 0
        have c1 := cell_blk (blk (below_undrew hb) (lt_blk HX.out) HX.out) 1
        go_simp
        exact Any.post_val hb rfl rfl
      · refine Any.owes_plain rfl fun ρ wo hs' hb hc' => ?_
        have h81 : ρ (.tmp 81) = .agg #[.string s, .slice (some ⟨b, off, none⟩) l.length c] := hs'.new' 81 2 (by kernel_rfl)
        have hf := hs'.func 22
        go_simp
        exact (HRM.out wo (HB.out.trans ((below_undrew hb).mono HB.out.size))).mono fun e w' ⟨he, hb'⟩ => ⟨_, he, Any.post_vals hb rfl rfl hb'⟩
      · refine Any.owes_plain rfl fun ρ wo hs' hb hc' => ?_
        have h80 : ρ (.tmp 80) = .bool r := hs'.new' 80 1 (by kernel_rfl)
        have h82 : ρ (.tmp 82) = .bool r := hs'.new' 82 3 (by kernel_rfl)
        have t1 : (r == r) = true := by simp
        go_simp
        exact Any.post_val hb rfl rfl
      · refine Any.owes_plain rfl fun ρ wo hs' hb hc' => ?_
        have h83 : ρ (.tmp 83) = .bool true := hs'.new' 83 4 (by kernel_rfl)
        exact Any.ok_move (Any.post_val hb rfl h83)
      · refine Any.owes_on rfl rfl (by kernel_rfl) rfl fun ρ wo hs' hb hc' => ?_
        have h3 : ρ (.tmp 3) = .pointer (some ⟨w.heap.size, 0, none⟩) := hs'.old' 3 (by kernel_rfl)
        have c0 := cell_blk (blk (below_undrew hb) (lt_blk HX.out) HX.out) 0
        have c1 := cell_blk (blk (below_undrew hb) (lt_blk HX.out) HX.out) 1
        go_simp
        exact Any.post_val hb rfl rfl
      · refine Any.owes_on rfl rfl (by kernel_rfl) rfl fun ρ wo hs' hb hc' => ?_
        have h85 : ρ (.tmp 85) = .agg #[.string s, .slice (some ⟨b, off, none⟩) l.length c] := hs'.new' 85 6 (by kernel_rfl)
        have hf := hs'.func 23
        go_simp
        exact (HTX.out wo (HB.out.trans ((below_undrew hb).mono HB.out.size))).mono fun e w' ⟨he, hb'⟩ => ⟨_, he, Any.post_vals hb rfl rfl hb'⟩
      · refine Any.owes_on rfl rfl (by kernel_rfl) rfl fun ρ wo hs' hb hc' => ?_
        have h3 : ρ (.tmp 3) = .pointer (some ⟨w.heap.size, 0, none⟩) := hs'.old' 3 (by kernel_rfl)
        have c0 := cell_blk (blk (below_undrew hb) (lt_blk HX.out) HX.out) 0
        have c1 := cell_blk (blk (below_undrew hb) (lt_blk HX.out) HX.out) 1
        go_simp
        exact Any.post_val hb rfl rfl
      · refine Any.owes_on rfl rfl (by kernel_rfl) rfl fun ρ wo hs' hb hc' => ?_
        have h87 : ρ (.tmp 87) = .agg #[.string s, .slice (some ⟨b, off, none⟩) l.length c] := hs'.new' 87 8 (by kernel_rfl)
        have hf := hs'.func 24
        go_simp
        exact (HRT.out wo (HB.out.trans ((below_undrew hb).mono HB.out.size))).mono fun e w' ⟨he, hb'⟩ => ⟨_, he, Any.post_vals hb rfl rfl hb'⟩
      · refine Any.owes_on rfl rfl (by kernel_rfl) rfl fun ρ wo hs' hb hc' => ?_
        have h86 : ρ (.tmp 86) = .string tx := hs'.new' 86 7 (by kernel_rfl)
        have h88 : ρ (.tmp 88) = .string tx := hs'.new' 88 9 (by kernel_rfl)
        have t1 : (tx.toList == tx.toList) = true := by simp
        go_simp
        exact Any.post_val hb rfl rfl
      · refine Any.owes_plain rfl fun ρ wo hs' hb hc' => ?_
        have h84 : ρ (.tmp 84) = .bool true := hs'.new' 84 5 (by kernel_rfl)
        have h89 : ρ (.tmp 89) = .bool true := hs'.new' 89 10 (by kernel_rfl)
        go_simp
        exact Any.post_val hb rfl rfl
      · refine Any.owes_plain rfl fun ρ wo hs' hb hc' => ?_
        have h90 : ρ (.tmp 90) = .bool true := hs'.new' 90 11 (by kernel_rfl)
        exact Any.ok_assign (Any.post_val hb rfl h90)
    intro vals wz hb hk ha
    have h12 : vals 12 = .bool true := hk 12 (by kernel_rfl)
    have HBZ := Lib.hid (HB.out.trans (hb.mono HB.out.size))
    clear hk ha hb
    simp only [Any.putAll]
    go_frame
    simp only [Nat.zero_add, Nat.reduceAdd]
    rw [h12]
    clear h12
    go_wp2_with fail
    go_ret
    exact ⟨rfl, HBZ.out⟩

theorem lifted (os : Os) (started : os.Started) (H : Type) (enc : TypeId × Value → H) :
    ReturnsInHanded {} Tryd.checked os 6 .any (fun w args => (Rows.portMaysSpec.pre enc Tryd.prog Tryd.f6 [] false w args ∧ laidMetH Tryd.prog laidA w) ∧ sizedMet enc Tryd.prog Tryd.f6 (OpenSpec.ofChange Rows.portMaysSpec) false w args) (Rows.portMaysSpec.post enc Tryd.prog Tryd.f6 false true false false) := by
  refine law_liftedD os started (by kernel_rfl) Tryd.func6
    (ChangeSpec.witness_shaped (enc := enc) (C := Tryd.checked) (os := os) (X := fun w _ => laidMetH Tryd.prog laidA w) false (World.doorLaid Tryd.prog 400 os) #[.agg #[.string ⟨#[]⟩, .slice none 0 0], .string ⟨#[]⟩, .int .i64 0] 8 rfl (World.shaped_of_RefB (by kernel_rfl) (by kernel_rfl)) (by kernel_rfl) (by kernel_rfl) (by kernel_rfl) (door_met os _))
    (by kernel_rfl) rfl rfl ?_ ?_
  · intro vs ds W p hA
    rw [Tryd.params6] at hA
    obtain ⟨v0, vs0, d0, ds0, p0, q0, rfl, rfl, rfl, h0, r0⟩ := trodAll_cons hA
    obtain ⟨v1, vs1, d1, ds1, p1, q1, rfl, rfl, rfl, h1, r1⟩ := trodAll_cons r0
    obtain ⟨v2, vs2, d2, ds2, p2, q2, rfl, rfl, rfl, h2, r2⟩ := trodAll_cons r1
    obtain ⟨rfl, rfl, rfl⟩ := trodAll_nil r2
    rfl
  · intro W base args ds p hap hval hA
    rw [Tryd.params6] at hA hval
    obtain ⟨v0, vs0, d0, ds0, p0, q0, hargs, rfl, rfl, h0, r0⟩ := trodAll_cons hA
    obtain ⟨v1, vs1, d1, ds1, p1, q1, rfl, rfl, rfl, h1, r1⟩ := trodAll_cons r0
    obtain ⟨v2, vs2, d2, ds2, p2, q2, rfl, rfl, rfl, h2, r2⟩ := trodAll_cons r1
    obtain ⟨rfl, rfl, rfl⟩ := trodAll_nil r2
    obtain rfl : args = #[v0, v1, v2] := by cases args; simp_all
    obtain ⟨t0, rfl, hs0, w0⟩ := open_voyage (hval 0 32 v0 rfl rfl) h0
    obtain ⟨a1, rfl, rfl, rfl, w1⟩ := Go.ChangeMaps.open_string Tryd.underlying9 (hval 1 9 v1 rfl rfl) h1
    obtain ⟨a2, rfl, rfl, rfl, w2⟩ := open_int Tryd.underlying3 (hval 2 3 v2 rfl rfl) h2
    exact walk W hap t0 hs0 w0 a1 w1 a2 w2

theorem over : Rows.portMaysRow.holds Tryd.pinned (OpenSpec.ofChange Rows.portMaysSpec) :=
  OpenClaim.holds_of_wide 6 Tryd.f6 rfl rfl rfl rfl rfl rfl rfl ⟨rfl, rfl, rfl, rfl, rfl⟩ rfl rfl rfl rfl rfl (by kernel_rfl) Tryd.func6 (by kernel_rfl)
    (of_decide_eq_true (by kernel_rfl)) (by unfold Func.isWrapper; rw [if_neg (by decide +kernel)]; exact ⟨rfl, rfl⟩)
    (fun os started H enc _ => lifted os started H enc)

/-- The statement. -/
theorem proved : Rows.PortMaysCardSaid :=
  Claim7.holds_tied_plain_at .later [] [.data, .data, .data] true _ true
    over (fun _ h => by cases h) (by kernel_rfl) (fun _ h => by cases h) portMays_row_tie rfl ⟨rfl, rfl⟩ (by kernel_rfl) rfl
    (fun f fn hf hfn => by
      obtain rfl : f = 6 := Option.some.inj (hf.symm.trans (by kernel_rfl))
      obtain rfl : fn = Tryd.f6 := (Option.some.inj (Tryd.func6.symm.trans hfn)).symm
      exact ⟨by kernel_rfl, fun j t ht => by
        have hall : (Tryd.f6.params.toList.all fun u => !Tryd.prog.wantsStandIn u) = true := by kernel_rfl
        have hm : t ∈ Tryd.f6.params.toList := by simpa using Array.mem_of_getElem? ht
        exact (show Tryd.prog.wantsStandIn t = false by simpa using List.all_eq_true.1 hall t hm)⟩)
    (by kernel_rfl)
#print axioms proved
end Go.Proofs.YtbmjficiceiekaaDoor.portMays
