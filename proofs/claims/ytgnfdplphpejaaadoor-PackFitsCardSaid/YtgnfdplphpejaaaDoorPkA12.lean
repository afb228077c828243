/- What goes into a box together: by the program. -/
import Derived.Test.YtgnfdplphpejaaaDoorPkPlC12
import Derived.Test.YtgnfdplphpejaaaDoorRising11
import Derived.Test.YtgnfdplphpejaaaDoorFillR
import Derived.Test.YtgnfdplphpejaaaDoorJoinB11
namespace Go.Proofs.YtgnfdplphpejaaaDoor.Sc
open Go Go.RowKit Go.ChangeShapes Go.WideShapes Go.ChangeAt
set_option maxRecDepth 100000

theorem room_any (k : Int) (w : World) : Calls Tryd.prog 10 #[.int .i64 k] w (Ret w (.tuple #[.int .i64 (roomW k), .int .i64 (roomV k)])) := by
  have hv : roomW k = if k = 0 then 28000 else if k = 1 then 26000 else 0 := rfl
  have hu : roomV k = if k = 0 then 33000 else if k = 1 then 67000 else 0 := rfl
  by_cases h0 : k = 0
  · subst h0
    go_enter Tryd.func10, Tryd.ntmps10
    go_wp2
    go_ret2
    exact ⟨rfl, Below.refl _ _⟩
  · rw [if_neg h0] at hv hu
    have t0 : (k == 0) = false := by simp [h0]
    by_cases h1 : k = 1
    · subst h1
      go_enter Tryd.func10, Tryd.ntmps10
      go_wp2
      go_ret2
      exact ⟨rfl, Below.refl _ _⟩
    · rw [if_neg h1] at hv hu
      have t1 : (k == 1) = false := by simp [h1]
      have HV := Lib.hid (And.intro hv hu)
      clear h0 h1 hv hu
      go_enter Tryd.func10, Tryd.ntmps10
      go_wp2
      go_ret2
      exact ⟨by rw [HV.out.1, HV.out.2]; rfl, Below.refl _ _⟩
theorem isKind_any (k : Int) (w : World) : Calls Tryd.prog 26 #[.int .i64 k] w (RetB w (kindOk k)) := by
  by_cases h0 : k = 0
  · subst h0
    go_enter Tryd.func26, Tryd.ntmps26
    go_wp2
    go_ret
    exact retB rfl (Below.refl _ _)
  · have t0 : (k == 0) = false := by simp [h0]
    have hv : kindOk k = (k == 1) := by rw [kindOk, decide_eq_false h0, Bool.false_or]; rfl
    have HV := Lib.hid hv
    clear h0 hv
    go_enter Tryd.func26, Tryd.ntmps26
    go_wp2
    go_ret
    exact retB HV.out.symm (Below.refl _ _)
theorem sumV_is (t : List Gd) (f : Gd → Int) (l : List Lt) : ∃ n : Int, sumV t f l = .tuple #[.int .i64 n, .int .i64 (sumC t f l)] ∧ (sumC t f l = 0 → n = sumL t f l) := by
  unfold sumV sumC
  split
  · split
    · exact ⟨0, rfl, fun h => by cases h⟩
    · exact ⟨_, rfl, fun _ => rfl⟩
  · rename_i h0
    exact ⟨0, rfl, fun h => absurd h h0⟩
set_option maxHeartbeats 8000000 in
theorem goes_any (t : List Gd) (k : Int) (l : List Lt) (bt bm : Nat) (v : Value) (w : World) (hap : ApT w) (hs : Sl w 2 v (l.map Lt.row)) (hl : l.length ≤ 4000) (htab : Tab w bt bm t) (hn : (codes t).Nodup) (hok : ∀ g ∈ t, gdOk g = true) :
    Calls Tryd.prog 22 #[.pointer (some ⟨bt, 0, none⟩), .int .i64 k, v] w (RetB w (goP t k l)) := by
  have HIK := Lib.hid (fun W => isKind_any k W)
  have HRM := Lib.hid (fun W => room_any k W)
  have HGO : Hid (goP t k l = (kindOk k && (decide (lotsC t l = 0) && (decide (sumL t Gd.wt l ≤ roomW k) && (decide (sumL t Gd.vol l ≤ roomV k) && (decide (togC t l = 0) && decide ((joinL l).length ≤ 8))))))) := Lib.hid rfl
  have HR := Lib.hid (room_le k)
  generalize hkk : kindOk k = kk at *
  cases kk
  · have HQ : Hid (goP t k l = false) := Lib.hid (by rw [HGO.out]; rfl)
    clear hap hs htab hn hok
    go_enter Tryd.func22, Tryd.ntmps22
    go_wp2_with (first
      | ((with_reducible refine (HIK.out _).mono ?_); rintro e w2 ⟨rfl, hb2⟩; have HB := Lib.hid hb2; clear hb2)
      | fail)
    go_ret
    exact retB HQ.out.symm HB.out
  obtain ⟨n1, hv1, hz1⟩ := sumV_is t Gd.wt l
  obtain ⟨n2, hv2, hz2⟩ := sumV_is t Gd.vol l
  have HW1 := Lib.hid (fun W (hW : Below w.heap.size w W) => weight_any t l bt bm v W (hs.below hW (Nat.le_refl _)) (htab.below hW) hn hok)
  have HW2 := Lib.hid (fun W (hW : Below w.heap.size w W) => volume_any t l bt bm v W (hs.below hW (Nat.le_refl _)) (htab.below hW) hn hok)
  have HTO := Lib.hid (fun W (hW : Below w.heap.size w W) => together_any t l bt bm v W (hap.below hW) (hs.below hW (Nat.le_refl _)) (htab.below hW) hn hok)
  have HJ := Lib.hid (fun (hin : AllIn t l) W (hW : Below w.heap.size w W) => join_any l v W (hs.below hW (Nat.le_refl _)) hl (fun x hx => by have := lot_range (hin x hx).1; omega))
  rw [hv1] at HW1
  rw [hv2] at HW2
  have HC1 := Lib.hid (fun h : sumC t Gd.wt l ≠ 0 => (show goP t k l = false by
    cases hg : goP t k l with
    | false => rfl
    | true =>
      obtain ⟨-, g1, g2, g3, -⟩ := goP_iff.1 hg
      exact absurd (by rw [sumC, if_pos (lotsC_all g1), if_neg (by have := HR.out; omega)]) h))
  have HC2 := Lib.hid (fun h : sumC t Gd.vol l ≠ 0 => (show goP t k l = false by
    cases hg : goP t k l with
    | false => rfl
    | true =>
      obtain ⟨-, g1, g2, g3, -⟩ := goP_iff.1 hg
      exact absurd (by rw [sumC, if_pos (lotsC_all g1), if_neg (by have := HR.out; omega)]) h))
  have HIN := Lib.hid (fun h : sumC t Gd.wt l = 0 => (sumC_ok h).1)
  have HLJ := Lib.hid (joinL_length l)
  clear hap hs htab hn hok hv1 hv2
  by_cases hc1 : sumC t Gd.wt l = 0
  rotate_left
  · have HQ := Lib.hid (HC1.out hc1)
    have tq : (sumC t Gd.wt l != 0) = true := by simp [hc1]
    generalize sumC t Gd.wt l = q1 at *
    clear hc1 hz1 HC1 HC2 HIN HGO HJ
    go_enter Tryd.func22, Tryd.ntmps22
    go_wp2_with (first
      | ((with_reducible refine (HIK.out _).mono ?_); rintro e w2 ⟨rfl, hb2⟩; have HB := Lib.hid hb2; clear hb2)
      | ((with_reducible refine (HRM.out _).mono ?_); rintro e w3 ⟨rfl, hb3⟩; have HB := Lib.hid (HB.out.trans (hb3.mono HB.out.size)); clear hb3)
      | ((with_reducible refine (HW1.out _ HB.out).mono ?_); rintro e w4 ⟨rfl, hb4⟩; have HB := Lib.hid (HB.out.trans (hb4.mono HB.out.size)); clear hb4)
      | fail)
    go_ret
    exact retB HQ.out.symm HB.out
  have hin := HIN.out hc1
  obtain rfl := hz1 hc1
  rw [hc1] at HW1
  by_cases h1 : roomW k < sumL t Gd.wt l
  · have HQ : Hid (goP t k l = false) := Lib.hid (by rw [HGO.out, decide_eq_true (lotsC_all hin), decide_eq_false (show ¬ sumL t Gd.wt l ≤ roomW k by omega)]; rfl)
    have t1 : decide (roomW k < sumL t Gd.wt l) = true := decide_eq_true h1
    generalize sumL t Gd.wt l = n1 at *
    generalize roomW k = r1 at *
    clear hc1 h1 hz1 hz2 HC1 HC2 HIN HGO HJ hin
    go_enter Tryd.func22, Tryd.ntmps22
    go_wp2_with (first
      | ((with_reducible refine (HIK.out _).mono ?_); rintro e w2 ⟨rfl, hb2⟩; have HB := Lib.hid hb2; clear hb2)
      | ((with_reducible refine (HRM.out _).mono ?_); rintro e w3 ⟨rfl, hb3⟩; have HB := Lib.hid (HB.out.trans (hb3.mono HB.out.size)); clear hb3)
      | ((with_reducible refine (HW1.out _ HB.out).mono ?_); rintro e w4 ⟨rfl, hb4⟩; have HB := Lib.hid (HB.out.trans (hb4.mono HB.out.size)); clear hb4)
      | fail)
    go_ret
    exact retB HQ.out.symm HB.out
  have t1 : decide (roomW k < sumL t Gd.wt l) = false := decide_eq_false h1
  by_cases hc2 : sumC t Gd.vol l = 0
  rotate_left
  · have HQ := Lib.hid (HC2.out hc2)
    have tq : (sumC t Gd.vol l != 0) = true := by simp [hc2]
    generalize sumC t Gd.vol l = q2 at *
    generalize sumL t Gd.wt l = n1 at *
    generalize roomW k = r1 at *
    clear hc1 h1 hz1 hc2 hz2 HC1 HC2 HIN HGO HJ hin
    go_enter Tryd.func22, Tryd.ntmps22
    go_wp2_with (first
      | ((with_reducible refine (HIK.out _).mono ?_); rintro e w2 ⟨rfl, hb2⟩; have HB := Lib.hid hb2; clear hb2)
      | ((with_reducible refine (HRM.out _).mono ?_); rintro e w3 ⟨rfl, hb3⟩; have HB := Lib.hid (HB.out.trans (hb3.mono HB.out.size)); clear hb3)
      | ((with_reducible refine (HW1.out _ HB.out).mono ?_); rintro e w4 ⟨rfl, hb4⟩; have HB := Lib.hid (HB.out.trans (hb4.mono HB.out.size)); clear hb4)
      | ((with_reducible refine (HW2.out _ HB.out).mono ?_); rintro e w5 ⟨rfl, hb5⟩; have HB := Lib.hid (HB.out.trans (hb5.mono HB.out.size)); clear hb5)
      | ((with_reducible refine (HTO.out _ HB.out).mono ?_); rintro e w6 ⟨rfl, hb6⟩; have HB := Lib.hid (HB.out.trans (hb6.mono HB.out.size)); clear hb6)
      | fail)
    go_ret
    exact retB HQ.out.symm HB.out
  obtain rfl := hz2 hc2
  rw [hc2] at HW2
  by_cases h2 : roomV k < sumL t Gd.vol l
  · have HQ : Hid (goP t k l = false) := Lib.hid (by rw [HGO.out, decide_eq_true (lotsC_all hin), decide_eq_false (show ¬ sumL t Gd.vol l ≤ roomV k by omega)]; simp)
    have t2 : decide (roomV k < sumL t Gd.vol l) = true := decide_eq_true h2
    generalize sumL t Gd.wt l = n1 at *
    generalize roomW k = r1 at *
    generalize sumL t Gd.vol l = n2 at *
    generalize roomV k = r2 at *
    clear hc1 h1 hz1 hc2 hz2 h2 HC1 HC2 HIN HGO HJ hin
    go_enter Tryd.func22, Tryd.ntmps22
    go_wp2_with (first
      | ((with_reducible refine (HIK.out _).mono ?_); rintro e w2 ⟨rfl, hb2⟩; have HB := Lib.hid hb2; clear hb2)
      | ((with_reducible refine (HRM.out _).mono ?_); rintro e w3 ⟨rfl, hb3⟩; have HB := Lib.hid (HB.out.trans (hb3.mono HB.out.size)); clear hb3)
      | ((with_reducible refine (HW1.out _ HB.out).mono ?_); rintro e w4 ⟨rfl, hb4⟩; have HB := Lib.hid (HB.out.trans (hb4.mono HB.out.size)); clear hb4)
      | ((with_reducible refine (HW2.out _ HB.out).mono ?_); rintro e w5 ⟨rfl, hb5⟩; have HB := Lib.hid (HB.out.trans (hb5.mono HB.out.size)); clear hb5)
      | ((with_reducible refine (HTO.out _ HB.out).mono ?_); rintro e w6 ⟨rfl, hb6⟩; have HB := Lib.hid (HB.out.trans (hb6.mono HB.out.size)); clear hb6)
      | fail)
    go_ret
    exact retB HQ.out.symm HB.out
  have t2 : decide (roomV k < sumL t Gd.vol l) = false := decide_eq_false h2
  have HJJ := Lib.hid (HJ.out hin)
  have HG2 : Hid (goP t k l = (decide (togC t l = 0) && decide ((joinL l).length ≤ 8))) := Lib.hid (by rw [HGO.out, decide_eq_true (lotsC_all hin), decide_eq_true (show sumL t Gd.wt l ≤ roomW k by omega), decide_eq_true (show sumL t Gd.vol l ≤ roomV k by omega)]; rfl)
  generalize sumL t Gd.wt l = n1 at *
  generalize roomW k = r1 at *
  generalize sumL t Gd.vol l = n2 at *
  generalize roomV k = r2 at *
  clear hc1 h1 hz1 hc2 hz2 h2 HC1 HC2 HIN HGO HJ hin
  by_cases h3 : togC t l = 0
  rotate_left
  · have HQ : Hid (goP t k l = false) := Lib.hid (by rw [HG2.out, decide_eq_false h3]; rfl)
    have t3 : (togC t l == 0) = false := by simp [h3]
    generalize togC t l = q3 at *
    clear h3 HG2 HJJ
    go_enter Tryd.func22, Tryd.ntmps22
    go_wp2_with (first
      | ((with_reducible refine (HIK.out _).mono ?_); rintro e w2 ⟨rfl, hb2⟩; have HB := Lib.hid hb2; clear hb2)
      | ((with_reducible refine (HRM.out _).mono ?_); rintro e w3 ⟨rfl, hb3⟩; have HB := Lib.hid (HB.out.trans (hb3.mono HB.out.size)); clear hb3)
      | ((with_reducible refine (HW1.out _ HB.out).mono ?_); rintro e w4 ⟨rfl, hb4⟩; have HB := Lib.hid (HB.out.trans (hb4.mono HB.out.size)); clear hb4)
      | ((with_reducible refine (HW2.out _ HB.out).mono ?_); rintro e w5 ⟨rfl, hb5⟩; have HB := Lib.hid (HB.out.trans (hb5.mono HB.out.size)); clear hb5)
      | ((with_reducible refine (HTO.out _ HB.out).mono ?_); rintro e w6 ⟨rfl, hb6⟩; have HB := Lib.hid (HB.out.trans (hb6.mono HB.out.size)); clear hb6)
      | fail)
    go_ret
    exact retB HQ.out.symm HB.out
  rw [h3] at HTO
  have HQ : Hid (goP t k l = decide ((joinL l).length ≤ 8)) := Lib.hid (by rw [HG2.out, decide_eq_true h3]; rfl)
  obtain ⟨n, hnl⟩ : ∃ n, n = (joinL l).length := ⟨_, rfl⟩
  rw [← hnl] at HQ HLJ
  have HJK := Lib.hid (fun W hW => (HJJ.out W hW).mono fun e w' h => (show ∃ a c, e = .returned (.slice a n c) ∧ Below W.heap.size W w' by
    obtain ⟨v, he, ho, hb⟩ := h
    obtain ⟨a, c, hs⟩ := Ord.row_slice ho
    exact ⟨a, c, by rw [he, hs, hnl], hb⟩))
  have HNL : Hid (n ≤ 4000) := Lib.hid (by have := HLJ.out; omega)
  clear h3 HG2 HJJ hnl
  by_cases h8 : n ≤ 8
  · have t8 : decide ((n : Int) ≤ 8) = true := decide_eq_true (by omega)
    have t8' : decide (n ≤ 8) = true := decide_eq_true h8
    rw [t8'] at HQ
    clear h8
    go_enter Tryd.func22, Tryd.ntmps22
    go_wp2_with (first
      | ((with_reducible refine (HIK.out _).mono ?_); rintro e w2 ⟨rfl, hb2⟩; have HB := Lib.hid hb2; clear hb2)
      | ((with_reducible refine (HRM.out _).mono ?_); rintro e w3 ⟨rfl, hb3⟩; have HB := Lib.hid (HB.out.trans (hb3.mono HB.out.size)); clear hb3)
      | ((with_reducible refine (HW1.out _ HB.out).mono ?_); rintro e w4 ⟨rfl, hb4⟩; have HB := Lib.hid (HB.out.trans (hb4.mono HB.out.size)); clear hb4)
      | ((with_reducible refine (HW2.out _ HB.out).mono ?_); rintro e w5 ⟨rfl, hb5⟩; have HB := Lib.hid (HB.out.trans (hb5.mono HB.out.size)); clear hb5)
      | ((with_reducible refine (HTO.out _ HB.out).mono ?_); rintro e w6 ⟨rfl, hb6⟩; have HB := Lib.hid (HB.out.trans (hb6.mono HB.out.size)); clear hb6)
      | ((with_reducible refine (HJK.out _ HB.out).mono ?_); rintro e w7 ⟨a7, c7, rfl, hb7⟩; have HB := Lib.hid (HB.out.trans (hb7.mono HB.out.size)); clear hb7)
      | fail)
    go_ret
    exact retB HQ.out.symm HB.out
  · have t8 : decide ((n : Int) ≤ 8) = false := decide_eq_false (by omega)
    have t8' : decide (n ≤ 8) = false := decide_eq_false h8
    rw [t8'] at HQ
    clear h8
    go_enter Tryd.func22, Tryd.ntmps22
    go_wp2_with (first
      | ((with_reducible refine (HIK.out _).mono ?_); rintro e w2 ⟨rfl, hb2⟩; have HB := Lib.hid hb2; clear hb2)
      | ((with_reducible refine (HRM.out _).mono ?_); rintro e w3 ⟨rfl, hb3⟩; have HB := Lib.hid (HB.out.trans (hb3.mono HB.out.size)); clear hb3)
      | ((with_reducible refine (HW1.out _ HB.out).mono ?_); rintro e w4 ⟨rfl, hb4⟩; have HB := Lib.hid (HB.out.trans (hb4.mono HB.out.size)); clear hb4)
      | ((with_reducible refine (HW2.out _ HB.out).mono ?_); rintro e w5 ⟨rfl, hb5⟩; have HB := Lib.hid (HB.out.trans (hb5.mono HB.out.size)); clear hb5)
      | ((with_reducible refine (HTO.out _ HB.out).mono ?_); rintro e w6 ⟨rfl, hb6⟩; have HB := Lib.hid (HB.out.trans (hb6.mono HB.out.size)); clear hb6)
      | ((with_reducible refine (HJK.out _ HB.out).mono ?_); rintro e w7 ⟨a7, c7, rfl, hb7⟩; have HB := Lib.hid (HB.out.trans (hb7.mono HB.out.size)); clear hb7)
      | fail)
    go_ret
    exact retB HQ.out.symm HB.out
end Go.Proofs.YtgnfdplphpejaaaDoor.Sc
