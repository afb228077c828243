/- The kind of a new box: by the program. -/
import Derived.Test.YtbigoifpfkdkjaaGreatDoorTd30
import Derived.Test.YtbigoifpfkdkjaaGreatDoorTd32
import Derived.Test.YtbigoifpfkdkjaaGreatDoorTd33
import Derived.Test.YtbigoifpfkdkjaaGreatDoorTd34
import Derived.Test.YtbigoifpfkdkjaaGreatDoorTd28
import Derived.Test.YtbigoifpfkdkjaaGreatDoorTd21
import Derived.Shelf.Abstract
namespace Go.Proofs.YtbigoifpfkdkjaaGreatDoor.Sc
open Go Go.RowKit Go.ChangeShapes Go.WideShapes Go.ChangeAt
set_option maxRecDepth 100000

theorem room_any (k : Int) (w : World) : Calls Tryz.prog 32 #[.int .i64 k] w (Ret w (.tuple #[.int .i64 (roomW k), .int .i64 (roomV k)])) := by
  have hv : roomW k = if k = 0 then 28000 else if k = 1 then 26000 else 0 := rfl
  have hu : roomV k = if k = 0 then 33000 else if k = 1 then 67000 else 0 := rfl
  by_cases h0 : k = 0
  · subst h0
    go_enter Tryz.func32, Tryz.ntmps32
    go_wp2
    go_ret2
    exact ⟨rfl, Below.refl _ _⟩
  · rw [if_neg h0] at hv hu
    have t0 : (k == 0) = false := by simp [h0]
    by_cases h1 : k = 1
    · subst h1
      go_enter Tryz.func32, Tryz.ntmps32
      go_wp2
      go_ret2
      exact ⟨rfl, Below.refl _ _⟩
    · rw [if_neg h1] at hv hu
      have t1 : (k == 1) = false := by simp [h1]
      have HV := Lib.hid (And.intro hv hu)
      clear h0 h1 hv hu
      go_enter Tryz.func32, Tryz.ntmps32
      go_wp2
      go_ret2
      exact ⟨by rw [HV.out.1, HV.out.2]; rfl, Below.refl _ _⟩
theorem isKind_any (k : Int) (w : World) : Calls Tryz.prog 86 #[.int .i64 k] w (RetB w (kindOk k)) := by
  by_cases h0 : k = 0
  · subst h0
    go_enter Tryz.func86, Tryz.ntmps86
    go_wp2
    go_ret
    exact retB rfl (Below.refl _ _)
  · have t0 : (k == 0) = false := by simp [h0]
    have hv : kindOk k = (k == 1) := by rw [kindOk, decide_eq_false h0, Bool.false_or]; rfl
    have HV := Lib.hid hv
    clear h0 hv
    go_enter Tryz.func86, Tryz.ntmps86
    go_wp2
    go_ret
    exact retB HV.out.symm (Below.refl _ _)
theorem sumV_is (t : List Gd) (f : Gd → Int) (l : List Lt) : ∃ n : Int, sumV t f l = .tuple #[.int .i64 n, .int .i64 (sumC t f l)] ∧ (sumC t f l = 0 → n = sumL t f l) := by
  unfold sumV sumC
  split
  · split
    · exact ⟨0, rfl, fun h => by cases h⟩
    · exact ⟨_, rfl, fun _ => rfl⟩
  · rename_i h0
    exact ⟨0, rfl, fun h => absurd h h0⟩
set_option maxHeartbeats 8000000 in
theorem goes_any (t : List Gd) (k : Int) (l : List Lt) (bt bm : Nat) (v : Value) (w : World) (hap : ApT w) (hs : Sl w 2 v (l.map Lt.row)) (hl : l.length ≤ 4000) (htab : Tab w bt bm t) (hn : (codes t).Nodup) (hok : ∀ g ∈ t, gdOk g = true) :
    Calls Tryz.prog 153 #[.pointer (some ⟨bt, 0, none⟩), .int .i64 k, v] w (RetB w (goP t k l)) := by
  have HIK := Lib.hid (fun W => isKind_any k W)
  have HRM := Lib.hid (fun W => room_any k W)
  have HGO : Hid (goP t k l = (kindOk k && (decide (lotsC t l = 0) && (decide (sumL t Gd.wt l ≤ roomW k) && (decide (sumL t Gd.vol l ≤ roomV k) && (decide (togC t l = 0) && decide ((joinL l).length ≤ 8))))))) := Lib.hid rfl
  have HR := Lib.hid (room_le k)
  generalize hkk : kindOk k = kk at *
  cases kk
  · have HQ : Hid (goP t k l = false) := Lib.hid (by rw [HGO.out]; rfl)
    clear hap hs htab hn hok
    go_enter Tryz.func153, Tryz.ntmps153
    go_wp2_with (first
      | ((with_reducible refine (HIK.out _).mono ?_); rintro e w2 ⟨rfl, hb2⟩; have HB := Lib.hid hb2; clear hb2)
      | fail)
    go_ret
    exact retB HQ.out.symm HB.out
  obtain ⟨n1, hv1, hz1⟩ := sumV_is t Gd.wt l
  obtain ⟨n2, hv2, hz2⟩ := sumV_is t Gd.vol l
  have HW1 := Lib.hid (fun W (hW : Below w.heap.size w W) => weight_any t l bt bm v W (hs.below hW (Nat.le_refl _)) (htab.below hW) hn hok)
  have HW2 := Lib.hid (fun W (hW : Below w.heap.size w W) => volume_any t l bt bm v W (hs.below hW (Nat.le_refl _)) (htab.below hW) hn hok)
  have HTO := Lib.hid (fun W (hW : Below w.heap.size w W) => together_any t l bt bm v W (hap.below hW) (hs.below hW (Nat.le_refl _)) (htab.below hW) hn hok)
  have HJ := Lib.hid (fun (hin : AllIn t l) W (hW : Below w.heap.size w W) => join_any l v W (hs.below hW (Nat.le_refl _)) hl (fun x hx => by have := lot_range (hin x hx).1; omega))
  rw [hv1] at HW1
  rw [hv2] at HW2
  have HC1 := Lib.hid (fun h : sumC t Gd.wt l ≠ 0 => (show goP t k l = false by
    cases hg : goP t k l with
    | false => rfl
    | true =>
      obtain ⟨-, g1, g2, g3, -⟩ := goP_iff.1 hg
      exact absurd (by rw [sumC, if_pos (lotsC_all g1), if_neg (by have := HR.out; omega)]) h))
  have HC2 := Lib.hid (fun h : sumC t Gd.vol l ≠ 0 => (show goP t k l = false by
    cases hg : goP t k l with
    | false => rfl
    | true =>
      obtain ⟨-, g1, g2, g3, -⟩ := goP_iff.1 hg
      exact absurd (by rw [sumC, if_pos (lotsC_all g1), if_neg (by have := HR.out; omega)]) h))
  have HIN := Lib.hid (fun h : sumC t Gd.wt l = 0 => (sumC_ok h).1)
  have HLJ := Lib.hid (joinL_length l)
  clear hap hs htab hn hok hv1 hv2
  by_cases hc1 : sumC t Gd.wt l = 0
  rotate_left
  · have HQ := Lib.hid (HC1.out hc1)
    have tq : (sumC t Gd.wt l != 0) = true := by simp [hc1]
    generalize sumC t Gd.wt l = q1 at *
    clear hc1 hz1 HC1 HC2 HIN HGO HJ
    go_enter Tryz.func153, Tryz.ntmps153
    go_wp2_with (first
      | ((with_reducible refine (HIK.out _).mono ?_); rintro e w2 ⟨rfl, hb2⟩; have HB := Lib.hid hb2; clear hb2)
      | ((with_reducible refine (HRM.out _).mono ?_); rintro e w3 ⟨rfl, hb3⟩; have HB := Lib.hid (HB.out.trans (hb3.mono HB.out.size)); clear hb3)
      | ((with_reducible refine (HW1.out _ HB.out).mono ?_); rintro e w4 ⟨rfl, hb4⟩; have HB := Lib.hid (HB.out.trans (hb4.mono HB.out.size)); clear hb4)
      | fail)
    go_ret
    exact retB HQ.out.symm HB.out
  have hin := HIN.out hc1
  obtain rfl := hz1 hc1
  rw [hc1] at HW1
  by_cases h1 : roomW k < sumL t Gd.wt l
  · have HQ : Hid (goP t k l = false) := Lib.hid (by rw [HGO.out, decide_eq_true (lotsC_all hin), decide_eq_false (show ¬ sumL t Gd.wt l ≤ roomW k by omega)]; rfl)
    have t1 : decide (roomW k < sumL t Gd.wt l) = true := decide_eq_true h1
    generalize sumL t Gd.wt l = n1 at *
    generalize roomW k = r1 at *
    clear hc1 h1 hz1 hz2 HC1 HC2 HIN HGO HJ hin
    go_enter Tryz.func153, Tryz.ntmps153
    go_wp2_with (first
      | ((with_reducible refine (HIK.out _).mono ?_); rintro e w2 ⟨rfl, hb2⟩; have HB := Lib.hid hb2; clear hb2)
      | ((with_reducible refine (HRM.out _).mono ?_); rintro e w3 ⟨rfl, hb3⟩; have HB := Lib.hid (HB.out.trans (hb3.mono HB.out.size)); clear hb3)
      | ((with_reducible refine (HW1.out _ HB.out).mono ?_); rintro e w4 ⟨rfl, hb4⟩; have HB := Lib.hid (HB.out.trans (hb4.mono HB.out.size)); clear hb4)
      | fail)
    go_ret
    exact retB HQ.out.symm HB.out
  have t1 : decide (roomW k < sumL t Gd.wt l) = false := decide_eq_false h1
  by_cases hc2 : sumC t Gd.vol l = 0
  rotate_left
  · have HQ := Lib.hid (HC2.out hc2)
    have tq : (sumC t Gd.vol l != 0) = true := by simp [hc2]
    generalize sumC t Gd.vol l = q2 at *
    generalize sumL t Gd.wt l = n1 at *
    generalize roomW k = r1 at *
    clear hc1 h1 hz1 hc2 hz2 HC1 HC2 HIN HGO HJ hin
    go_enter Tryz.func153, Tryz.ntmps153
    go_wp2_with (first
      | ((with_reducible refine (HIK.out _).mono ?_); rintro e w2 ⟨rfl, hb2⟩; have HB := Lib.hid hb2; clear hb2)
      | ((with_reducible refine (HRM.out _).mono ?_); rintro e w3 ⟨rfl, hb3⟩; have HB := Lib.hid (HB.out.trans (hb3.mono HB.out.size)); clear hb3)
      | ((with_reducible refine (HW1.out _ HB.out).mono ?_); rintro e w4 ⟨rfl, hb4⟩; have HB := Lib.hid (HB.out.trans (hb4.mono HB.out.size)); clear hb4)
      | ((with_reducible refine (HW2.out _ HB.out).mono ?_); rintro e w5 ⟨rfl, hb5⟩; have HB := Lib.hid (HB.out.trans (hb5.mono HB.out.size)); clear hb5)
      | ((with_reducible refine (HTO.out _ HB.out).mono ?_); rintro e w6 ⟨rfl, hb6⟩; have HB := Lib.hid (HB.out.trans (hb6.mono HB.out.size)); clear hb6)
      | fail)
    go_ret
    exact retB HQ.out.symm HB.out
  obtain rfl := hz2 hc2
  rw [hc2] at HW2
  by_cases h2 : roomV k < sumL t Gd.vol l
  · have HQ : Hid (goP t k l = false) := Lib.hid (by rw [HGO.out, decide_eq_true (lotsC_all hin), decide_eq_false (show ¬ sumL t Gd.vol l ≤ roomV k by omega)]; simp)
    have t2 : decide (roomV k < sumL t Gd.vol l) = true := decide_eq_true h2
    generalize sumL t Gd.wt l = n1 at *
    generalize roomW k = r1 at *
    generalize sumL t Gd.vol l = n2 at *
    generalize roomV k = r2 at *
    clear hc1 h1 hz1 hc2 hz2 h2 HC1 HC2 HIN HGO HJ hin
    go_enter Tryz.func153, Tryz.ntmps153
    go_wp2_with (first
      | ((with_reducible refine (HIK.out _).mono ?_); rintro e w2 ⟨rfl, hb2⟩; have HB := Lib.hid hb2; clear hb2)
      | ((with_reducible refine (HRM.out _).mono ?_); rintro e w3 ⟨rfl, hb3⟩; have HB := Lib.hid (HB.out.trans (hb3.mono HB.out.size)); clear hb3)
      | ((with_reducible refine (HW1.out _ HB.out).mono ?_); rintro e w4 ⟨rfl, hb4⟩; have HB := Lib.hid (HB.out.trans (hb4.mono HB.out.size)); clear hb4)
      | ((with_reducible refine (HW2.out _ HB.out).mono ?_); rintro e w5 ⟨rfl, hb5⟩; have HB := Lib.hid (HB.out.trans (hb5.mono HB.out.size)); clear hb5)
      | ((with_reducible refine (HTO.out _ HB.out).mono ?_); rintro e w6 ⟨rfl, hb6⟩; have HB := Lib.hid (HB.out.trans (hb6.mono HB.out.size)); clear hb6)
      | fail)
    go_ret
    exact retB HQ.out.symm HB.out
  have t2 : decide (roomV k < sumL t Gd.vol l) = false := decide_eq_false h2
  have HJJ := Lib.hid (HJ.out hin)
  have HG2 : Hid (goP t k l = (decide (togC t l = 0) && decide ((joinL l).length ≤ 8))) := Lib.hid (by rw [HGO.out, decide_eq_true (lotsC_all hin), decide_eq_true (show sumL t Gd.wt l ≤ roomW k by omega), decide_eq_true (show sumL t Gd.vol l ≤ roomV k by omega)]; rfl)
  generalize sumL t Gd.wt l = n1 at *
  generalize roomW k = r1 at *
  generalize sumL t Gd.vol l = n2 at *
  generalize roomV k = r2 at *
  clear hc1 h1 hz1 hc2 hz2 h2 HC1 HC2 HIN HGO HJ hin
  by_cases h3 : togC t l = 0
  rotate_left
  · have HQ : Hid (goP t k l = false) := Lib.hid (by rw [HG2.out, decide_eq_false h3]; rfl)
    have t3 : (togC t l == 0) = false := by simp [h3]
    generalize togC t l = q3 at *
    clear h3 HG2 HJJ
    go_enter Tryz.func153, Tryz.ntmps153
    go_wp2_with (first
      | ((with_reducible refine (HIK.out _).mono ?_); rintro e w2 ⟨rfl, hb2⟩; have HB := Lib.hid hb2; clear hb2)
      | ((with_reducible refine (HRM.out _).mono ?_); rintro e w3 ⟨rfl, hb3⟩; have HB := Lib.hid (HB.out.trans (hb3.mono HB.out.size)); clear hb3)
      | ((with_reducible refine (HW1.out _ HB.out).mono ?_); rintro e w4 ⟨rfl, hb4⟩; have HB := Lib.hid (HB.out.trans (hb4.mono HB.out.size)); clear hb4)
      | ((with_reducible refine (HW2.out _ HB.out).mono ?_); rintro e w5 ⟨rfl, hb5⟩; have HB := Lib.hid (HB.out.trans (hb5.mono HB.out.size)); clear hb5)
      | ((with_reducible refine (HTO.out _ HB.out).mono ?_); rintro e w6 ⟨rfl, hb6⟩; have HB := Lib.hid (HB.out.trans (hb6.mono HB.out.size)); clear hb6)
      | fail)
    go_ret
    exact retB HQ.out.symm HB.out
  rw [h3] at HTO
  have HQ : Hid (goP t k l = decide ((joinL l).length ≤ 8)) := Lib.hid (by rw [HG2.out, decide_eq_true h3]; rfl)
  obtain ⟨n, hnl⟩ : ∃ n, n = (joinL l).length := ⟨_, rfl⟩
  rw [← hnl] at HQ HLJ
  have HJK := Lib.hid (fun W hW => (HJJ.out W hW).mono fun e w' h => (show ∃ a c, e = .returned (.slice a n c) ∧ Below W.heap.size W w' by
    obtain ⟨v, he, ho, hb⟩ := h
    obtain ⟨a, c, hs⟩ := Ord.row_slice ho
    exact ⟨a, c, by rw [he, hs, hnl], hb⟩))
  have HNL : Hid (n ≤ 4000) := Lib.hid (by have := HLJ.out; omega)
  clear h3 HG2 HJJ hnl
  by_cases h8 : n ≤ 8
  · have t8 : decide ((n : Int) ≤ 8) = true := decide_eq_true (by omega)
    have t8' : decide (n ≤ 8) = true := decide_eq_true h8
    rw [t8'] at HQ
    clear h8
    go_enter Tryz.func153, Tryz.ntmps153
    go_wp2_with (first
      | ((with_reducible refine (HIK.out _).mono ?_); rintro e w2 ⟨rfl, hb2⟩; have HB := Lib.hid hb2; clear hb2)
      | ((with_reducible refine (HRM.out _).mono ?_); rintro e w3 ⟨rfl, hb3⟩; have HB := Lib.hid (HB.out.trans (hb3.mono HB.out.size)); clear hb3)
      | ((with_reducible refine (HW1.out _ HB.out).mono ?_); rintro e w4 ⟨rfl, hb4⟩; have HB := Lib.hid (HB.out.trans (hb4.mono HB.out.size)); clear hb4)
      | ((with_reducible refine (HW2.out _ HB.out).mono ?_); rintro e w5 ⟨rfl, hb5⟩; have HB := Lib.hid (HB.out.trans (hb5.mono HB.out.size)); clear hb5)
      | ((with_reducible refine (HTO.out _ HB.out).mono ?_); rintro e w6 ⟨rfl, hb6⟩; have HB := Lib.hid (HB.out.trans (hb6.mono HB.out.size)); clear hb6)
      | ((with_reducible refine (HJK.out _ HB.out).mono ?_); rintro e w7 ⟨a7, c7, rfl, hb7⟩; have HB := Lib.hid (HB.out.trans (hb7.mono HB.out.size)); clear hb7)
      | fail)
    go_ret
    exact retB HQ.out.symm HB.out
  · have t8 : decide ((n : Int) ≤ 8) = false := decide_eq_false (by omega)
    have t8' : decide (n ≤ 8) = false := decide_eq_false h8
    rw [t8'] at HQ
    clear h8
    go_enter Tryz.func153, Tryz.ntmps153
    go_wp2_with (first
      | ((with_reducible refine (HIK.out _).mono ?_); rintro e w2 ⟨rfl, hb2⟩; have HB := Lib.hid hb2; clear hb2)
      | ((with_reducible refine (HRM.out _).mono ?_); rintro e w3 ⟨rfl, hb3⟩; have HB := Lib.hid (HB.out.trans (hb3.mono HB.out.size)); clear hb3)
      | ((with_reducible refine (HW1.out _ HB.out).mono ?_); rintro e w4 ⟨rfl, hb4⟩; have HB := Lib.hid (HB.out.trans (hb4.mono HB.out.size)); clear hb4)
      | ((with_reducible refine (HW2.out _ HB.out).mono ?_); rintro e w5 ⟨rfl, hb5⟩; have HB := Lib.hid (HB.out.trans (hb5.mono HB.out.size)); clear hb5)
      | ((with_reducible refine (HTO.out _ HB.out).mono ?_); rintro e w6 ⟨rfl, hb6⟩; have HB := Lib.hid (HB.out.trans (hb6.mono HB.out.size)); clear hb6)
      | ((with_reducible refine (HJK.out _ HB.out).mono ?_); rintro e w7 ⟨a7, c7, rfl, hb7⟩; have HB := Lib.hid (HB.out.trans (hb7.mono HB.out.size)); clear hb7)
      | fail)
    go_ret
    exact retB HQ.out.symm HB.out
end Go.Proofs.YtbigoifpfkdkjaaGreatDoor.Sc
namespace Go.Proofs.YtbigoifpfkdkjaaGreatDoor.Sc
open Go Go.RowKit Go.ChangeShapes Go.WideShapes Go.ChangeAt
set_option maxRecDepth 100000

abbrev Np := Value × List Lt
def NpAt (w : World) (v : Value) (L : List Np) : Prop := Sl w 1 v (L.map fun x => [x.1]) ∧ ∀ q ∈ L, Sl w 2 q.1 (q.2.map Lt.row)
def npSnd (L : List Np) : List (List Lt) := L.map Prod.snd
theorem lts_one (l : List Lt) : ∀ u ∈ ltCells l, u.oneCell' = true := by
  intro u hu
  obtain ⟨y, _, hy⟩ := List.mem_flatMap.1 hu
  simp only [Lt.row, List.mem_cons, List.not_mem_nil, or_false] at hy
  rcases hy with rfl | rfl <;> rfl
theorem push_below {w wr w1 : World} {e : TypeId} {sz n : Nat} {v : Value} {xs : List Value} (hbel : Below w.heap.size w wr) (hown : wr.ownsRow w.heap.size e sz v n xs) (hg : wr.grownBy w1 v.ownBlock) : Below w.heap.size w w1 :=
  hbel.grown hg hbel.size (fun k hk => (hown.lt k hk).1)

theorem growLots_any (n : Nat) (w : World) (hn : n ≤ 1000000) : Calls Tryz.prog 222 #[.slice none 0 0, .int .i64 (n : Int)] w (RetRow w 107 2 0 []) := by
  obtain ⟨i0, hi, hz, hsz, hby⟩ := info_parts infoLt
  by_cases h0 : n = 0
  · subst h0
    refine (Any8.slices_Grow_room Tryz.growLot none 0 0 0 w (Nat.le_refl _) (by decide) (by decide) (by decide)).mono ?_
    rintro e w' ⟨rfl, rfl⟩
    exact ⟨_, rfl, World.ownsRow_nil _ _ _ _, Below.refl _ _⟩
  · refine (Any8.slices_Grow_grow Tryz.growLot i0 _ hi hz (by omega) none 0 0 n [] w (Nat.le_refl _) (by omega) (by rw [hby]; omega) (by omega) (by simp) (fun _ => rfl) (fun a h => by cases h)).mono ?_
    rintro e w' ⟨rfl, rfl⟩
    refine ⟨_, rfl, ?_, ?_⟩
    · refine World.ownsRow_made w.drew _ _ (Nat.le_refl _) (grownCap_le_maxLen _ _ _ _ (by simp only [maxLen]; omega)) ?_
      have hge := grownCap_ge w (0 + n) 0 (Tryz.growLot_ren.t 25)
      simp only [Array.size_append, List.size_toArray, List.length_nil, size_zeroCells, Value.cells]
      simp only [List.length_cons, List.length_nil, Nat.zero_add, Nat.sub_zero]
      have hge' : n ≤ grownCap w (0 + n) 0 (Tryz.growLot_ren.t 25) := by simpa using hge
      simp only [Nat.zero_add] at hge' ⊢
      rw [← Nat.add_mul]
      congr 1
      omega
    · exact (Below.refl _ _).drew.alloc (Nat.le_refl _) _
def npTot (L : List Np) : Nat := (npSnd L).flatten.length
theorem npTot_drop {L : List Np} {k : Nat} (h : k < L.length) : npTot (L.drop k) = L[k].2.length + npTot (L.drop (k + 1)) := by
  unfold npTot npSnd
  rw [List.drop_eq_getElem_cons h, List.map_cons, List.flatten_cons, List.length_append]
theorem npFlat_take {L : List Np} {k : Nat} (h : k < L.length) : (npSnd (L.take (k + 1))).flatten = (npSnd (L.take k)).flatten ++ L[k].2 := by
  unfold npSnd
  rw [List.take_succ_eq_append_getElem h, List.map_append, List.flatten_append, List.map_cons, List.map_nil, List.flatten_cons, List.flatten_nil, List.append_nil]
theorem npTot_take {L : List Np} (k : Nat) : (npSnd (L.take k)).flatten.length + npTot (L.drop k) = npTot L := by
  unfold npTot npSnd
  rw [← List.length_append, ← List.flatten_append, ← List.map_append, List.take_append_drop]
set_option maxHeartbeats 8000000 in
theorem concat_any (L : List Np) (v : Value) (w : World) (h : NpAt w v L) (hl : npTot L ≤ 100000) :
    Calls Tryz.prog 194 #[v] w (RetRow w 107 2 (npTot L) (ltCells (npSnd L).flatten)) := by
  obtain ⟨a, c, rfl⟩ : ∃ a c, v = .slice a L.length c := by simpa using h.1.shape
  have hll : L.length ≤ 9223372036854775807 := by have := h.1.len_le; simp only [List.length_map, maxLen] at this; omega
  have HN := Lib.hid h
  have HL := Lib.hid hl
  obtain ⟨i0, hi, hz, hsz, hby⟩ := info_parts infoLt
  have HI := Lib.hid (And.intro hi (And.intro hz (And.intro hsz hby)))
  clear h hl hi hz hsz hby
  go_enter Tryz.func194, Tryz.ntmps194
  go_wp2_with fail
  go_loopw [3, 5, 11] (fun s _ i wr => ∃ k sN : Nat, k ≤ L.length ∧ i = .int .i64 k ∧ s = .int .i64 sN ∧ sN + npTot (L.drop k) = npTot L ∧ Below w.heap.size w wr) (fun _ _ i _ => L.length - (intOf i).toNat)
  case atStart => exact ⟨0, 0, Nat.zero_le _, rfl, rfl, by simp, Below.refl _ _⟩
  case round =>
    obtain ⟨k, sN, hk, rfl, rfl, hsum, hbel⟩ := hrel
    have HBEL := Lib.hid hbel
    by_cases hlt : k < L.length
    · obtain ⟨b, off, rfl, -, hb, hc⟩ := HN.out.1.at (i := k) (by simpa using hlt)
      have d0 := (hbel.cell (p := ⟨b, off + k * 1, none⟩) hb).trans (hc k [L[k].1] (by simp [hlt]) 0 _ rfl)
      rw [Nat.mul_one] at d0
      have hx := HN.out.2 L[k] (List.getElem_mem hlt)
      rw [npTot_drop hlt] at hsum
      generalize L[k] = x at *
      obtain ⟨xv, xl⟩ := x
      simp only at d0 hx hsum
      obtain ⟨ax, cx, rfl⟩ : ∃ a c, xv = .slice a xl.length c := by simpa using hx.shape
      have hsn : sN + xl.length ≤ 100000 := by have := HL.out; omega
      have ew : wrap64 ((sN : Int) + (xl.length : Int)) = (sN : Int) + (xl.length : Int) := wrap_q (by omega)
      have t1 : decide ((sN : Int) + (xl.length : Int) < 0) = false := decide_eq_false (by omega)
      have hxl : xl.length ≤ 9223372036854775807 := by omega
      have HS : Hid (sN + xl.length + npTot (L.drop (k + 1)) = npTot L) := Lib.hid (by omega)
      clear hb hc hbel hx hsum
      go_wp2_with fail
      go_roundw
      case rel => exact ⟨k + 1, sN + xl.length, by omega, by go_num, by go_num, HS.out, HBEL.out⟩
      case measure => (simp [intOf]) <;> omega
    · have HS : Hid (sN = npTot L) := Lib.hid (by rw [List.drop_of_length_le (by omega)] at hsum; simpa [npTot, npSnd] using hsum)
      have HG := Lib.hid (growLots_any sN wr (by rw [HS.out]; have := HL.out; omega))
      have hsn : sN ≤ 100000 := by rw [HS.out]; exact HL.out
      clear hbel hsum
      go_wp2_with (first
        | ((with_reducible refine HG.out.mono ?_); rintro e w1 ⟨v1, rfl, ho1, hb1⟩; have HB1 := Lib.hid (HBEL.out.trans (hb1.mono HBEL.out.size)); have HO1 := Lib.hid (ownsRow_base ho1 HBEL.out.size); clear ho1 hb1)
        | fail)
      go_loopw [6, 8, 27] (fun r _ i wr => ∃ k : Nat, k ≤ L.length ∧ i = .int .i64 k ∧ wr.ownsRow w.heap.size 107 2 r (npSnd (L.take k)).flatten.length (ltCells (npSnd (L.take k)).flatten) ∧ Below w.heap.size w wr) (fun _ _ i _ => L.length - (intOf i).toNat)
      case atStart => exact ⟨0, Nat.zero_le _, rfl, HO1.out, HB1.out⟩
      case round =>
        obtain ⟨k, hk, rfl, hown, hbel⟩ := hrel
        have HBEL2 := Lib.hid hbel
        have HOWN := Lib.hid hown
        have hkt := npTot_take (L := L) k
        by_cases hlt : k < L.length
        · obtain ⟨b, off, rfl, -, hb, hc⟩ := HN.out.1.at (i := k) (by simpa using hlt)
          have d0 := (hbel.cell (p := ⟨b, off + k * 1, none⟩) hb).trans (hc k [L[k].1] (by simp [hlt]) 0 _ rfl)
          rw [Nat.mul_one] at d0
          have hx := (HN.out.2 L[k] (List.getElem_mem hlt)).below hbel (Nat.le_refl _)
          have HFT := Lib.hid (npFlat_take hlt)
          rw [npTot_drop hlt] at hkt
          generalize L[k] = x at *
          obtain ⟨xv, xl⟩ := x
          simp only at d0 hx HFT hkt
          obtain ⟨ax, cx, rfl⟩ : ∃ a c, xv = .slice a xl.length c := by simpa using hx.shape
          have HSR := Lib.hid (Sl.src hx (lt_rows xl) (by decide))
          rw [List.length_map, ← ltCells_flat] at HSR
          have HONE : Hid (∀ u ∈ ltCells xl, u.oneCell' = true) := Lib.hid (lts_one xl)
          generalize (npSnd (L.take k)).flatten = A at *
          have HLE : Hid (A.length + xl.length ≤ maxLen ∧ (A.length + xl.length) * 24 ≤ 140737488355328 ∧ w.heap.size ≤ wr.heap.size) := Lib.hid (by have h1 := HL.out; have h2 := HBEL2.out.size; simp only [maxLen]; omega)
          clear hb hc hbel hown hx hkt
          go_wp2_with (first
            | ((with_reducible refine Any.wpl_cat ?_ ?_ ?_ Tryz.underlying88 HI.out.1 HI.out.2.1 HI.out.2.2.1 HI.out.2.2.2 ?_ (by decide) HOWN.out HSR.out ?_ HLE.out.1 HLE.out.2.1 HLE.out.2.2 ?_); rfl; rfl; rfl; rfl; exact HONE.out; intro v2 w2 hown2 hgrow2 hwho2
               have HO2 := Lib.hid hown2
               have HB2 := Lib.hid (push_below HBEL2.out HOWN.out hgrow2)
               clear hown2 hgrow2 hwho2)
            | fail)
          go_roundw
          case rel => exact ⟨k + 1, by omega, by go_num, by rw [HFT.out, List.length_append, ltCells_append]; exact HO2.out, HB2.out⟩
          case measure => (simp [intOf]) <;> omega
        · have HF : Hid (L.take k = L) := Lib.hid (List.take_of_length_le (by omega))
          clear hbel hown hkt
          go_wp2_with fail
          go_ret
          refine ⟨_, rfl, ?_, HBEL2.out⟩
          have := HOWN.out
          rw [HF.out] at this
          exact this
set_option maxRecDepth 5000 in
set_option maxHeartbeats 1000000 in
theorem equalLots_any (l m : List Lt) (v u : Value) (w : World) (hs : Sl w 2 v (l.map Lt.row)) (hu : Sl w 2 u (m.map Lt.row)) :
    Calls Tryz.prog 93 #[v, u] w (RetB w (decide (l = m))) := by
  have hml : l.length ≤ 9223372036854775807 := by have := hs.len_le; simp only [List.length_map, maxLen] at this; omega
  have hmm : m.length ≤ 9223372036854775807 := by have := hu.len_le; simp only [List.length_map, maxLen] at this; omega
  obtain ⟨a, c, rfl⟩ : ∃ a c, v = .slice a l.length c := by simpa using hs.shape
  obtain ⟨a', c', rfl⟩ : ∃ a c, u = .slice a m.length c := by simpa using hu.shape
  have HSL := Lib.hid hs
  have HSM := Lib.hid hu
  clear hs hu
  by_cases hlm : l.length = m.length
  · have t0 : ((l.length : Int) != (m.length : Int)) = false := by simp [hlm]
    have HLM := Lib.hid hlm
    clear hlm
    go_enter Tryz.func93, Tryz.ntmps93
    go_wp2_with fail
    clear t0
    go_loopw [5, 13] (fun _ i wr => ∃ k : Nat, k ≤ l.length ∧ i = .int .i64 k ∧ decide (l = m) = decide (l.drop k = m.drop k) ∧ Below w.heap.size w wr) (fun _ i _ => l.length - (intOf i).toNat)
    case atStart => exact ⟨0, Nat.zero_le _, rfl, rfl, Below.refl _ _⟩
    case round =>
      obtain ⟨k, hk, rfl, hrel, hbel⟩ := hrel
      by_cases hlt : k < l.length
      · have hlt' : k < m.length := by have := HLM.out; omega
        obtain ⟨b, off, rfl, -, hb, hc⟩ := HSL.out.at (i := k) (by simpa using hlt)
        obtain ⟨b', off', rfl, -, hb', hc'⟩ := HSM.out.at (i := k) (by simpa using hlt')
        have d0 := (hbel.cell (p := ⟨b, off + k * 2, none⟩) hb).trans (hc k (Lt.row l[k]) (by simp [hlt]) 0 _ rfl)
        have e0 := (hbel.cell (p := ⟨b', off' + k * 2, none⟩) hb').trans (hc' k (Lt.row m[k]) (by simp [hlt']) 0 _ rfl)
        have d1 := (hbel.cell (p := ⟨b, off + k * 2 + 1, none⟩) hb).trans (hc k (Lt.row l[k]) (by simp [hlt]) 1 _ rfl)
        have e1 := (hbel.cell (p := ⟨b', off' + k * 2 + 1, none⟩) hb').trans (hc' k (Lt.row m[k]) (by simp [hlt']) 1 _ rfl)
        rw [List.drop_eq_getElem_cons hlt, List.drop_eq_getElem_cons hlt'] at hrel
        have HR := Lib.hid hrel
        clear hrel hc hc'
        generalize l[k] = x at *
        generalize m[k] = y at *
        by_cases heq : x = y
        · have HEQ := Lib.hid heq
          have t1 : LtEq x y = true := ltEq_yes heq
          have t2 := fun w => run_neq_lt w x y
          unfold Lt.cells at t2
          have t3 := ltGuard
          clear heq
          go_wp2_with fail
          go_quiet (fail)
          go_wp2_with fail
          go_roundw
          case rel => exact ⟨k + 1, by omega, by go_num, by rw [HR.out, HEQ.out]; simp, below_drewN hbel _⟩
          case measure => simp [intOf]; omega
        · have HEQ := Lib.hid heq
          have t1 : LtEq x y = false := ltEq_no heq
          have t2 := fun w => run_neq_lt w x y
          unfold Lt.cells at t2
          have t3 := ltGuard
          clear heq
          go_wp2_with fail
          go_quiet (fail)
          go_wp2_with fail
          go_ret
          exact retB (by rw [HR.out]; simp [HEQ.out]) (below_drewN hbel _)
      · have HR := Lib.hid hrel
        clear hrel
        go_wp2_with fail
        go_ret
        exact retB (by rw [HR.out, List.drop_eq_nil_of_le (by omega), List.drop_eq_nil_of_le (by have := HLM.out; omega)]; rfl) hbel
  · have t0 : ((l.length : Int) != (m.length : Int)) = true := by simp; omega
    have HLM := Lib.hid hlm
    clear hlm
    go_enter Tryz.func93, Tryz.ntmps93
    go_wp2_with fail
    go_ret
    exact retB (by symm; exact decide_eq_false fun h => HLM.out (by rw [h])) (Below.refl _ _)
end Go.Proofs.YtbigoifpfkdkjaaGreatDoor.Sc
namespace Go.Proofs.YtbigoifpfkdkjaaGreatDoor.Sc
open Go Go.RowKit Go.ChangeShapes Go.WideShapes Go.ChangeAt
set_option maxRecDepth 100000

def Bx.lotsV : TypeId := 88
/-- A row of two rows: one that lay there, and one of a lot, new. -/
def pairS (vl : Value) (cs : Array Value) (j : Nat) : Ord.Spec :=
  ⟨fun _ v O w => ∃ b s, v = .slice (some ⟨b, 0, none⟩) 2 2 ∧ w.heap[b]? = some (.cells #[vl, .slice (some ⟨s, 0, none⟩) 1 1] 88 (0, 0)) ∧ w.heap[s]? = some (.cells cs 107 (0, 0)) ∧ ∀ k, O k ↔ (k = b ∨ k = s), [j], fun _ => False⟩
theorem lasts_pairS {F : Nat → Prop} {w0 : World} (vl : Value) (cs : Array Value) (j : Nat) : Ord.Lasts F (pairS vl cs j) w0 :=
  ⟨fun _ _ _ _ h b hb => by
    obtain ⟨g, s, _, h2, h3, h4⟩ := h
    rcases (h4 b).1 hb with rfl | rfl
    · exact lt_blk h2
    · exact lt_blk h3, fun _ _ _ _ _ h _ _ _ hs => by
    obtain ⟨g, s, h1, h2, h3, h4⟩ := h
    exact ⟨g, s, h1, (hs g ((h4 g).2 (.inl rfl))).trans h2, (hs s ((h4 s).2 (.inr rfl))).trans h3, h4⟩⟩
theorem ok_pairS {S : Nat → Ord.Spec} {Os : Nat → Nat → Prop} {dst : Option Tmp} {t : TypeId} {pos : String} {after : Array Edge} {gd : Option (Nat × Bool)} {ρ : Operand → Value} {w : World} {i j : Nat} {al : Option Addr} {n cl : Nat} {cs : Array Value} {x y : Operand}
    (hx : ρ x = .slice al n cl) (hy : ∃ ρ', (Ord.one 107 cs).know ρ' (ρ y) (Os j) w) (hS : S i = pairS (.slice al n cl) cs j) :
    Any.OpOk Tryz.prog ⟨dst, .buildSlice 293 2 #[(0, x), (1, y)], t, pos, after, gd⟩ ρ w (Ord.Post S Os i ρ w) := by
  obtain ⟨_, s, hv, hs, hO⟩ := hy
  have hlt := lt_blk hs
  have hpost : Ord.Post S Os i ρ w (.slice (some ⟨w.heap.size, 0, none⟩) 2 2) (w.alloc (.cells #[.slice al n cl, .slice (some ⟨s, 0, none⟩) 1 1] 88)) := by
    refine ⟨fun k => k = w.heap.size ∨ k = s, ?_, ⟨rfl, rfl, rfl⟩, by simp, fun b hb _ _ => (one_below w _).block b hb, fun b hb => ?_⟩
    · rw [hS]
      exact ⟨_, s, rfl, heap_alloc_new _ _, blk (one_below w _) hlt hs, fun _ => Iff.rfl⟩
    · rcases hb with rfl | rfl
      · exact .inr (.inl (Nat.le_refl _))
      · exact .inl ⟨j, by rw [hS]; exact List.mem_singleton.2 rfl, (hO _).2 rfl⟩
  go_simp
set_option maxHeartbeats 4000000 in
theorem fits_any (t : List Gd) (m : ByteArray) (k : Int) (L : List Lt) (x : Lt) (bt bm : Nat) (vl : Value) (w : World) (hap : ApT w) (hs : Sl w 2 vl (L.map Lt.row)) (hl : L.length ≤ 3000) (htab : Tab w bt bm t) (hn : (codes t).Nodup) (hok : ∀ g ∈ t, gdOk g = true) :
    Calls Tryz.prog 174 #[.pointer (some ⟨bt, 0, none⟩), .agg #[.string m, .int .i64 k, vl], .agg #[.string x.good, .int .i64 x.cnt]] w (RetB w (goP t k (L ++ [x]))) := by
  obtain ⟨al, cl, rfl⟩ : ∃ a c, vl = .slice a L.length c := by simpa using hs.shape
  obtain ⟨xn, xc⟩ := x
  obtain ⟨w5, hw5⟩ : ∃ w5, w5 = (w.alloc (.cells #[.string m, .int .i64 k, .slice al L.length cl] 96)).alloc (.cells #[.string xn, .int .i64 xc] 107) := ⟨_, rfl⟩
  obtain ⟨b4, hb4⟩ : ∃ b, b = w.heap.size := ⟨_, rfl⟩
  obtain ⟨b5, hb5⟩ : ∃ b, b = w.heap.size + 1 := ⟨_, rfl⟩
  have h4 : w5.heap[b4]? = some (.cells #[.string m, .int .i64 k, .slice al L.length cl] 96 (0, 0)) := by
    rw [hw5, hb4]
    exact blk (one_below _ _) (by simp) (heap_alloc_new w _)
  have h5 : w5.heap[b5]? = some (.cells #[.string xn, .int .i64 xc] 107 (0, 0)) := by
    rw [hw5, hb5]
    have := heap_alloc_new (w.alloc (.cells #[.string m, .int .i64 k, .slice al L.length cl] 96)) (.cells #[.string xn, .int .i64 xc] 107)
    simpa using this
  have HB5 : Hid (Below w.heap.size w w5) := Lib.hid (by rw [hw5]; exact (one_below w _).trans ((one_below _ _).mono (by simp)))
  have HC : Hid (∀ W, Below w5.heap.size w5 W → W.cell? ⟨b4, 1, none⟩ = some (.int .i64 k) ∧ W.cell? ⟨b4, 2, none⟩ = some (.slice al L.length cl) ∧ W.cell? ⟨b5, 0, none⟩ = some (.string xn) ∧ W.cell? ⟨b5, 1, none⟩ = some (.int .i64 xc)) := Lib.hid (fun W hW => by
    have k4 := blk hW (lt_blk h4) h4
    have k5 := blk hW (lt_blk h5) h5
    exact ⟨cell_blk k4 1, cell_blk k4 2, cell_blk k5 0, cell_blk k5 1⟩)
  have HCC : Hid (∀ W, Below w5.heap.size w5 W → ∀ b s, W.heap[b]? = some (.cells #[.slice al L.length cl, .slice (some ⟨s, 0, none⟩) 1 1] 88 (0, 0)) → W.heap[s]? = some (.cells #[.string xn, .int .i64 xc] 107 (0, 0)) →
      Calls Tryz.prog 194 #[.slice (some ⟨b, 0, none⟩) 2 2] W (RetRow W 107 2 (L.length + 1) (ltCells L ++ [.string xn, .int .i64 xc]))) := Lib.hid (fun W hW b s hb hs' => by
    have hsl : Sl W 2 (.slice al L.length cl) (L.map Lt.row) := (hs.below HB5.out (Nat.le_refl _)).below hW (by exact Nat.le_refl _)
    have hnp : NpAt W (.slice (some ⟨b, 0, none⟩) 2 2) [(.slice al L.length cl, L), (.slice (some ⟨s, 0, none⟩) 1 1, [⟨xn, xc⟩])] := by
      refine ⟨?_, fun q hq => ?_⟩
      · refine .inr ⟨b, 0, 2, rfl, lt_blk hb, by simp, by decide, fun i r hr j u hu => ?_⟩
        rw [cell_blk hb]
        match i, hr with
        | 0, hr => obtain rfl := (Option.some.inj hr).symm; match j, hu with
          | 0, hu => exact hu
        | 1, hr => obtain rfl := (Option.some.inj hr).symm; match j, hu with
          | 0, hu => exact hu
      · simp only [List.mem_cons, List.not_mem_nil, or_false] at hq
        rcases hq with rfl | rfl
        · exact hsl
        · refine .inr ⟨s, 0, 1, rfl, lt_blk hs', by simp, by decide, fun i r hr j u hu => ?_⟩
          rw [cell_blk hs']
          match i, hr with
          | 0, hr => obtain rfl := (Option.some.inj hr).symm; match j, hu with
            | 0, hu => exact hu
            | 1, hu => exact hu
    have := concat_any _ _ W hnp (by simp [npTot, npSnd]; omega)
    have e1 : npTot [(.slice al L.length cl, L), ((.slice (some ⟨s, 0, none⟩) 1 1 : Value), [(⟨xn, xc⟩ : Lt)])] = L.length + 1 := by simp [npTot, npSnd]
    have e2 : (npSnd [(.slice al L.length cl, L), ((.slice (some ⟨s, 0, none⟩) 1 1 : Value), [(⟨xn, xc⟩ : Lt)])]).flatten = L ++ [⟨xn, xc⟩] := by simp [npSnd]
    rw [e1, e2, ltCells_append] at this
    exact this)
  obtain ⟨r, hr⟩ : ∃ r, r = goP t k (L ++ [⟨xn, xc⟩]) := ⟨_, rfl⟩
  have HQ := Lib.hid hr.symm
  have HGO : Hid (∀ W, Below w5.heap.size w5 W → ∀ v, W.ownsRow w5.heap.size 107 2 v (L.length + 1) (ltCells L ++ [.string xn, .int .i64 xc]) → Calls Tryz.prog 153 #[.pointer (some ⟨bt, 0, none⟩), .int .i64 k, v] W (RetB W r)) := Lib.hid (fun W hW v hv => by
    rw [hr]
    have hB := HB5.out.trans (hW.mono HB5.out.size)
    refine goes_any t k (L ++ [⟨xn, xc⟩]) bt bm v W (hap.below hB) ?_ (by simp; omega) (htab.below hB) hn hok
    rw [show ltCells L ++ [.string xn, .int .i64 xc] = ltCells (L ++ [⟨xn, xc⟩]) by rw [ltCells_append]; rfl] at hv
    exact own_lots hv (by simp))
  clear hap hs hl htab hn hok hr h4 h5
  go_enter Tryz.func174, Tryz.ntmps174
  go_wp2_with fail
  rw [← hb5, ← hb4, ← hw5]
  clear hb4 hb5 hw5
  refine Ord.region_lit (fun
    | 0 => Ord.val (.pointer (some ⟨bt, 0, none⟩))
    | 1 => Ord.val (.pointer (some ⟨b4, 1, none⟩))
    | 2 => Ord.val (.int .i64 k)
    | 3 => Ord.val (.pointer (some ⟨b4, 2, none⟩))
    | 4 => Ord.val (.slice al L.length cl)
    | 5 => Ord.val (.agg #[.string xn, .int .i64 xc])
    | 6 => Ord.one 107 #[.string xn, .int .i64 xc]
    | 7 => pairS (.slice al L.length cl) #[.string xn, .int .i64 xc] 6
    | 8 => Ord.own w5.heap.size 107 2 (L.length + 1) (ltCells L ++ [.string xn, .int .i64 xc]) []
    | 9 => Ord.val (.bool r)
    | 10 => Ord.val (.bool r)
    | _ => Ord.idle) (fun _ => False) (by kernel_rfl) (by kernel_rfl) (by kernel_rfl) ?_ ?_ ?_ ?_
  · intro i _
    match i with
    | 0 => exact Ord.lasts_val _
    | 1 => exact Ord.lasts_val _
    | 2 => exact Ord.lasts_val _
    | 3 => exact Ord.lasts_val _
    | 4 => exact Ord.lasts_val _
    | 5 => exact Ord.lasts_val _
    | 6 => exact Ord.lasts_one _ _
    | 7 => exact lasts_pairS _ _ _
    | 8 => exact Ord.lasts_own _ _ _ _ _ _
    | 9 => exact Ord.lasts_val _
    | 10 => exact Ord.lasts_val _
    | n + 11 => exact Ord.lasts_idle
  · refine ⟨fun k b _ hh => ?_, fun k b _ hh => ?_, fun k k' b _ _ hne h1 h2 => ?_⟩
    · match k, hh with
      | 0, hh => exact hh.elim
      | 1, hh => exact hh.elim
      | 2, hh => exact hh.elim
      | 3, hh => exact hh.elim
      | 4, hh => exact hh.elim
      | 5, hh => exact hh.elim
      | 6, hh => exact hh.elim
      | 7, hh => exact hh.elim
      | 8, hh => exact hh.elim
      | 9, hh => exact hh.elim
      | 10, hh => exact hh.elim
      | m + 11, hh => exact hh.elim
    · match k, hh with
      | 0, hh => exact hh.elim
      | 1, hh => exact hh.elim
      | 2, hh => exact hh.elim
      | 3, hh => exact hh.elim
      | 4, hh => exact hh.elim
      | 5, hh => exact hh.elim
      | 6, hh => exact hh.elim
      | 7, hh => exact hh.elim
      | 8, hh => exact hh.elim
      | 9, hh => exact hh.elim
      | 10, hh => exact hh.elim
      | m + 11, hh => exact hh.elim
    · match k, h1 with
      | 0, hh => exact hh.elim
      | 1, hh => exact hh.elim
      | 2, hh => exact hh.elim
      | 3, hh => exact hh.elim
      | 4, hh => exact hh.elim
      | 5, hh => exact hh.elim
      | 6, hh => exact hh.elim
      | 7, hh => exact hh.elim
      | 8, hh => exact hh.elim
      | 9, hh => exact hh.elim
      | 10, hh => exact hh.elim
      | m + 11, hh => exact hh.elim
  · refine ⟨?_, ?_, ?_, ?_, ?_, ?_, ?_, ?_, ?_, ?_, ?_, trivial⟩
    · refine Ord.owes_plain rfl fun ρ Os wo hs' hb hc' => ?_
      have h0 : ρ (.tmp 0) = .pointer (some ⟨bt, 0, none⟩) := hs'.old' 0 (by kernel_rfl)
      exact Any.ok_move (Ord.post_val rfl h0)
    · refine Ord.owes_plain rfl fun ρ Os wo hs' hb hc' => ?_
      have h4 : ρ (.tmp 4) = .pointer (some ⟨b4, 0, none⟩) := hs'.old' 4 (by kernel_rfl)
      go_simp
      exact Ord.post_val rfl rfl
    · refine Ord.owes_plain rfl fun ρ Os wo hs' hb hc' => ?_
      have h8 : ρ (.tmp 8) = .pointer (some ⟨b4, 1, none⟩) := hs'.val' 8 1 (by kernel_rfl) rfl
      have c0 := (HC.out wo (hb.undrew.below (Nat.le_refl _) (fun _ _ h => h))).1
      go_simp
      exact Ord.post_val rfl rfl
    · refine Ord.owes_plain rfl fun ρ Os wo hs' hb hc' => ?_
      have h4 : ρ (.tmp 4) = .pointer (some ⟨b4, 0, none⟩) := hs'.old' 4 (by kernel_rfl)
      go_simp
      exact Ord.post_val rfl rfl
    · refine Ord.owes_plain rfl fun ρ Os wo hs' hb hc' => ?_
      have h10 : ρ (.tmp 10) = .pointer (some ⟨b4, 2, none⟩) := hs'.val' 10 3 (by kernel_rfl) rfl
      have c0 := (HC.out wo (hb.undrew.below (Nat.le_refl _) (fun _ _ h => h))).2.1
      go_simp
      exact Ord.post_val rfl rfl
    · refine Ord.owes_plain rfl fun ρ Os wo hs' hb hc' => ?_
      have h5 : ρ (.tmp 5) = .pointer (some ⟨b5, 0, none⟩) := hs'.old' 5 (by kernel_rfl)
      obtain ⟨c0, c1⟩ := (HC.out wo (hb.undrew.below (Nat.le_refl _) (fun _ _ h => h))).2.2
      go_simp
      exact Ord.post_val rfl rfl
    · refine Ord.owes_plain rfl fun ρ Os wo hs' hb hc' => ?_
      have h12 : ρ (.tmp 12) = .agg #[.string xn, .int .i64 xc] := hs'.val' 12 5 (by kernel_rfl) rfl
      go_simp
      exact Ord.post_one rfl
    · refine Ord.owes_plain rfl fun ρ Os wo hs' hb hc' => ?_
      have h11 : ρ (.tmp 11) = .slice al L.length cl := hs'.val' 11 4 (by kernel_rfl) rfl
      exact ok_pairS h11 (hs'.new' 13 6 (by kernel_rfl)) rfl
    · refine Ord.owes_plain rfl fun ρ Os wo hs' hb hc' => ?_
      have hf := hs'.func 194
      obtain ⟨_, b, s, hv, hb1, hs1, -⟩ := hs'.new' 14 7 (by kernel_rfl)
      have hcc := HCC.out wo (hb.undrew.below (Nat.le_refl _) (fun _ _ h => h)) b s hb1 hs1
      go_simp
      exact hcc.mono fun e w' ⟨v, he, ho, hbb⟩ => ⟨v, he, Ord.post_new ⟨ownsRow_base ho hb.size, fun _ => Iff.rfl⟩ hbb fun b h => (ho.lt b h).1⟩
    · refine Ord.owes_plain rfl fun ρ Os wo hs' hb hc' => ?_
      have h7 : ρ (.tmp 7) = .pointer (some ⟨bt, 0, none⟩) := hs'.val' 7 0 (by kernel_rfl) rfl
      have h9 : ρ (.tmp 9) = .int .i64 k := hs'.val' 9 2 (by kernel_rfl) rfl
      have hf := hs'.func 153
      obtain ⟨_, ho, -⟩ := hs'.new' 15 8 (by kernel_rfl)
      go_simp
      exact (HGO.out wo (hb.undrew.below (Nat.le_refl _) (fun _ _ h => h)) _ ho).mono fun e w' ⟨he, hb'⟩ => ⟨_, he, Ord.post_vals rfl rfl hb'⟩
    · refine Ord.owes_plain rfl fun ρ Os wo hs' hb hc' => ?_
      have h16 : ρ (.tmp 16) = .bool r := hs'.val' 16 9 (by kernel_rfl) rfl
      exact Any.ok_assign (Ord.post_val rfl h16)
  intro vals Os ρs w6 hk hkn hln hap hbd
  have h10 : vals 10 = .bool r := (hkn 10 (by kernel_rfl)).1
  have HBZ := Lib.hid (hk.below (Nat.le_refl _) (fun _ _ h => h))
  clear hk hkn hln hap hbd
  simp only [Any.putAll]
  go_frame
  simp only [Nat.zero_add, Nat.reduceAdd]
  rw [h10]
  clear h10
  go_wp2_with fail
  go_ret
  exact retB HQ.out.symm (HB5.out.trans (HBZ.out.mono HB5.out.size))
end Go.Proofs.YtbigoifpfkdkjaaGreatDoor.Sc
namespace Go.Proofs.YtbigoifpfkdkjaaGreatDoor.Sc
open Go Go.RowKit Go.ChangeShapes Go.WideShapes Go.ChangeAt
set_option maxRecDepth 100000

def freshV (t : List Gd) (g : ByteArray) (c : Int) : Value := .tuple #[.int .i64 ((freshK t g c).getD 0), .bool (freshK t g c).isSome]
set_option maxHeartbeats 8000000 in
theorem fresh_any (t : List Gd) (g : ByteArray) (c : Int) (bt bm : Nat) (w : World) (hap : ApT w) (htab : Tab w bt bm t) (hn : (codes t).Nodup) (hok : ∀ g ∈ t, gdOk g = true) :
    Calls Tryz.prog 149 #[.pointer (some ⟨bt, 0, none⟩), .agg #[.string g, .int .i64 c]] w (Ret w (freshV t g c)) := by
  have HF := Lib.hid (fun (k c : Int) W (hW : Below w.heap.size w W) => (by
    have := fits_any t ⟨#[]⟩ k [] ⟨g, c⟩ bt bm (.slice none 0 0) W (hap.below hW) (.inl ⟨rfl, none, 0, rfl, fun _ => rfl⟩) (by simp) (htab.below hW) hn hok
    simpa using this : Calls Tryz.prog 174 #[.pointer (some ⟨bt, 0, none⟩), .agg #[.string ⟨#[]⟩, .int .i64 k, .slice none 0 0], .agg #[.string g, .int .i64 c]] W (RetB W (goP t k [⟨g, c⟩]))))
  have HK : Hid (freshK t g c = if goP t 0 [⟨g, c⟩] = true then some 0 else if goP t 1 [⟨g, 1⟩] = true then some 1 else if goP t 0 [⟨g, 1⟩] = true then some 0 else none) := Lib.hid rfl
  have HF1 := Lib.hid (fun W hW => HF.out 0 c W hW)
  have HF2 := Lib.hid (fun W hW => HF.out 1 1 W hW)
  have HF3 := Lib.hid (fun W hW => HF.out 0 1 W hW)
  generalize goP t 0 [⟨g, c⟩] = r1 at *
  generalize goP t 1 [⟨g, 1⟩] = r2 at *
  generalize goP t 0 [⟨g, 1⟩] = r3 at *
  obtain ⟨f, hf⟩ : ∃ f, f = freshK t g c := ⟨_, rfl⟩
  rw [← hf] at HK
  have HV : Hid (freshV t g c = .tuple #[.int .i64 (f.getD 0), .bool f.isSome]) := Lib.hid (by rw [hf]; rfl)
  clear hap htab hn hok HF hf
  have HB0 : Hid (Below w.heap.size w ((w.alloc (.cells #[.string g, .int .i64 c] 107)).alloc (.cells #[.string g, .int .i64 1] 107))) := Lib.hid ((one_below _ _).trans ((one_below _ _).mono (by simp)))
  have HX6 : Hid (((w.alloc (.cells #[.string g, .int .i64 c] 107)).alloc (.cells #[.string g, .int .i64 1] 107)).heap[w.heap.size + 1]? = some (.cells #[.string g, .int .i64 1] 107 (0, 0))) := Lib.hid (by
    have := heap_alloc_new (w.alloc (.cells #[.string g, .int .i64 c] 107)) (.cells #[.string g, .int .i64 1] 107)
    simpa using this)
  cases r1
  rotate_left
  · skip
    have HQ : Hid (f = some 0) := Lib.hid HK.out
    clear HK
    go_enter Tryz.func149, Tryz.ntmps149
    go_wp2_with (first
      | ((with_reducible refine (HF1.out _ HB0.out).mono ?_); rintro e w2 ⟨rfl, hb2⟩; have HB2 := Lib.hid (HB0.out.trans (hb2.mono HB0.out.size)); have HX6 := Lib.hid (blk hb2 (lt_blk HX6.out) HX6.out); have y0 := cell_blk HX6.out 0; have y1 := cell_blk HX6.out 1; clear hb2)
      | fail)
    go_ret2
    exact ⟨by rw [HV.out, HQ.out]; rfl, HB2.out⟩
  cases r2
  rotate_left
  · skip
    have HQ : Hid (f = some 1) := Lib.hid HK.out
    clear HK
    go_enter Tryz.func149, Tryz.ntmps149
    go_wp2_with (first
      | ((with_reducible refine (HF1.out _ HB0.out).mono ?_); rintro e w2 ⟨rfl, hb2⟩; have HB2 := Lib.hid (HB0.out.trans (hb2.mono HB0.out.size)); have HX6 := Lib.hid (blk hb2 (lt_blk HX6.out) HX6.out); have y0 := cell_blk HX6.out 0; have y1 := cell_blk HX6.out 1; clear hb2)
      | ((with_reducible refine (HF2.out _ HB2.out).mono ?_); rintro e w3 ⟨rfl, hb3⟩; have HB3 := Lib.hid (HB2.out.trans (hb3.mono HB2.out.size)); have HX6 := Lib.hid (blk hb3 (lt_blk HX6.out) HX6.out); clear y0 y1; have y0 := cell_blk HX6.out 0; have y1 := cell_blk HX6.out 1; clear hb3)
      | fail)
    go_ret2
    exact ⟨by rw [HV.out, HQ.out]; rfl, HB3.out⟩
  cases r3
  rotate_left
  · skip
    have HQ : Hid (f = some 0) := Lib.hid HK.out
    clear HK
    go_enter Tryz.func149, Tryz.ntmps149
    go_wp2_with (first
      | ((with_reducible refine (HF1.out _ HB0.out).mono ?_); rintro e w2 ⟨rfl, hb2⟩; have HB2 := Lib.hid (HB0.out.trans (hb2.mono HB0.out.size)); have HX6 := Lib.hid (blk hb2 (lt_blk HX6.out) HX6.out); have y0 := cell_blk HX6.out 0; have y1 := cell_blk HX6.out 1; clear hb2)
      | ((with_reducible refine (HF2.out _ HB2.out).mono ?_); rintro e w3 ⟨rfl, hb3⟩; have HB3 := Lib.hid (HB2.out.trans (hb3.mono HB2.out.size)); have HX6 := Lib.hid (blk hb3 (lt_blk HX6.out) HX6.out); clear y0 y1; have y0 := cell_blk HX6.out 0; have y1 := cell_blk HX6.out 1; clear hb3)
      | ((with_reducible refine (HF3.out _ HB3.out).mono ?_); rintro e w4 ⟨rfl, hb4⟩; have HB4 := Lib.hid (HB3.out.trans (hb4.mono HB3.out.size)); clear hb4)
      | fail)
    go_ret2
    exact ⟨by rw [HV.out, HQ.out]; rfl, HB4.out⟩
  · skip
    have HQ : Hid (f = none) := Lib.hid HK.out
    clear HK
    go_enter Tryz.func149, Tryz.ntmps149
    go_wp2_with (first
      | ((with_reducible refine (HF1.out _ HB0.out).mono ?_); rintro e w2 ⟨rfl, hb2⟩; have HB2 := Lib.hid (HB0.out.trans (hb2.mono HB0.out.size)); have HX6 := Lib.hid (blk hb2 (lt_blk HX6.out) HX6.out); have y0 := cell_blk HX6.out 0; have y1 := cell_blk HX6.out 1; clear hb2)
      | ((with_reducible refine (HF2.out _ HB2.out).mono ?_); rintro e w3 ⟨rfl, hb3⟩; have HB3 := Lib.hid (HB2.out.trans (hb3.mono HB2.out.size)); have HX6 := Lib.hid (blk hb3 (lt_blk HX6.out) HX6.out); clear y0 y1; have y0 := cell_blk HX6.out 0; have y1 := cell_blk HX6.out 1; clear hb3)
      | ((with_reducible refine (HF3.out _ HB3.out).mono ?_); rintro e w4 ⟨rfl, hb4⟩; have HB4 := Lib.hid (HB3.out.trans (hb4.mono HB3.out.size)); clear hb4)
      | fail)
    go_ret2
    exact ⟨by rw [HV.out, HQ.out]; rfl, HB4.out⟩
end Go.Proofs.YtbigoifpfkdkjaaGreatDoor.Sc
