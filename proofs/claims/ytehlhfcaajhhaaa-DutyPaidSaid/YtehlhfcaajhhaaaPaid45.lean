/- Nothing is released for less than its duty, nor twice; what is released frees just its duty. No condition. -/
import Derived.Test.YtehlhfcaajhhaaaPlay45
import Derived.Test.YtehlhfcaajhhaaaAwake45
namespace Go.Proofs.Ytehlhfcaajhhaaa.Sc
open Go Go.RowKit
theorem paid_cells (l : List Bx) (j : Nat) (hj : j < l.length) (a : Option Addr) (c : Nat) (W : World) (hs : Sl W 4 (.slice a l.length c) (l.map Bx.row)) :
    ∃ b off, a = some ⟨b, off, none⟩ ∧ b < W.heap.size ∧ W.cell? ⟨b, off + j * 4 + 1, none⟩ = some (.int .i64 l[j].duty) ∧ W.cell? ⟨b, off + j * 4 + 3, none⟩ = some (.int .i64 l[j].st) := by
  obtain ⟨b, off, rfl, -, hb, hc⟩ := hs.at (i := j) (by simpa using hj)
  have hr : (l.map Bx.row)[j]? = some l[j].row := by rw [List.getElem?_map, List.getElem?_eq_getElem hj]; rfl
  exact ⟨b, off, rfl, hb, hc j _ hr 1 _ rfl, hc j _ hr 3 _ rfl⟩
theorem paid_at {W : World} {b off k : Nat} {D s : Value} (h : ∃ b' off', (some ⟨b, off, none⟩ : Option Addr) = some ⟨b', off', none⟩ ∧ b' < W.heap.size ∧ W.cell? ⟨b', off' + k * 4 + 1, none⟩ = some D ∧ W.cell? ⟨b', off' + k * 4 + 3, none⟩ = some s) :
    b < W.heap.size ∧ W.cell? ⟨b, off + k * 4 + 1, none⟩ = some D ∧ W.cell? ⟨b, off + k * 4 + 3, none⟩ = some s := by
  obtain ⟨b', off', he, h1, h2, h3⟩ := h
  simp only [Option.some.injEq, Addr.mk.injEq, and_true] at he
  obtain ⟨rfl, rfl⟩ := he
  exact ⟨h1, h2, h3⟩
/-- A bond, and the blocks that are its own. -/
def BO (w : World) (bp bm : Nat) (L : Int) (l : List Bx) (O : Nat → Prop) : Prop := Bst w bp bm L l ∧ ∀ k, O k ↔ (k = bp ∨ k = bm)
theorem bst_same {w w' : World} {bp bm : Nat} {L : Int} {l : List Bx} (h : Bst w bp bm L l) (h1 : w'.heap[bp]? = w.heap[bp]?) (h2 : w'.heap[bm]? = w.heap[bm]?) : Bst w' bp bm L l := by
  obtain ⟨es, hm, hp⟩ := h.map
  exact ⟨h1.trans h.box, ⟨es, hm.same h2, hp⟩, h.ne, h.good, h.lim, h.us⟩
theorem bo_range {w : World} {bp bm : Nat} {L : Int} {l : List Bx} {O : Nat → Prop} (h : BO w bp bm L l O) : ∀ b, O b → b < w.heap.size := fun b hb => by
  rcases (h.2 b).1 hb with rfl | rfl
  · exact lt_blk h.1.box
  · obtain ⟨es, hm, -⟩ := h.1.map
    exact hm.lt
theorem bo_same {w w' : World} {bp bm : Nat} {L : Int} {l : List Bx} {O : Nat → Prop} (h : BO w bp bm L l O) (hs : ∀ b, O b → w'.heap[b]? = w.heap[b]?) : BO w' bp bm L l O :=
  ⟨bst_same h.1 (hs bp ((h.2 bp).2 (.inl rfl))) (hs bm ((h.2 bm).2 (.inr rfl))), h.2⟩
theorem wf32 {n : Int} (h : (Lit.int .u32 n).wf = true) : 0 ≤ n ∧ n ≤ 4294967295 := by
  simp only [Lit.wf, Bool.and_eq_true, decide_eq_true_eq] at h
  have h1 : IntKind.u32.min = 0 := by decide
  have h2 : IntKind.u32.max = 4294967295 := by decide
  omega
/-- A box that is open: what a release does. -/
theorem rel_less {l : List Bx} {n : ByteArray} {b : Bx} {p : Int} (h : boxOf l n = some b) (h0 : b.st = 0) (hp : p < b.duty) : leaveC l n (rfRel p) = 10 ∧ leaveL l n 1 (rfRel p) = l := by
  have hc : leaveC l n (rfRel p) = 10 := by rw [leaveC_some h h0, rfRel, if_pos hp]
  exact ⟨hc, by rw [leaveL, if_neg (by rw [hc]; decide)]⟩
theorem rel_pays {l : List Bx} {n : ByteArray} {b : Bx} {p : Int} (h : boxOf l n = some b) (h0 : b.st = 0) (hp : ¬ p < b.duty) : leaveC l n (rfRel p) = 0 ∧ leaveL l n 1 (rfRel p) = setSt l n 1 := by
  have hc : leaveC l n (rfRel p) = 0 := by rw [leaveC_some h h0, rfRel, if_neg hp]
  exact ⟨hc, by rw [leaveL, if_pos hc]⟩
theorem set_box {l : List Bx} {n : ByteArray} {b : Bx} (h : boxOf l n = some b) (st : Int) : boxOf (setSt l n st) n = some ⟨b.name, b.duty, b.day, st⟩ := by
  have hn := (boxOf_mem h).2
  rw [boxOf, setSt, List.find?_map]
  have e : ((fun b : Bx => decide (b.name = n)) ∘ fun b : Bx => if b.name = n then (⟨b.name, b.duty, b.day, st⟩ : Bx) else b) = fun b => decide (b.name = n) := by
    funext b
    simp only [Function.comp]
    split <;> rfl
  rw [e]
  rw [boxOf] at h
  rw [h, Option.map_some, if_pos hn]
theorem rel_gone {l : List Bx} {n : ByteArray} {b : Bx} (h : boxOf l n = some b) (p : Int) : leaveC (setSt l n 1) n (rfRel p) = 9 := leaveC_gone (set_box h 1) (show ¬ (1 : Int) = 0 by decide)
end Go.Proofs.Ytehlhfcaajhhaaa.Sc
namespace Go.Proofs.Ytehlhfcaajhhaaa.dutyPaid
open Go.ChangeShapes Go.WideShapes Go.ChangeAt Go.RowKit Go Sc
set_option maxRecDepth 100000

set_option maxHeartbeats 16000000 in
theorem walk (w : World) (limit : Int) (_ : (Lit.int .i64 limit).wf = true) (ops : List O5) (v : Value) (hs : Sl w 5 v (ops.map O5.row)) (hf : ∀ o ∈ ops, o.fit) (box : ByteArray) (_ : box.size ≤ maxLen) (n : Int) (hn0 : (Lit.int .u32 n).wf = true) :
    Calls Try.prog 5 #[.int .i64 limit, v, .string box, .int .u32 n] w (RetB w true) := by
  have hn := wf32 hn0
  clear hn0
  have HAW := Lib.hid (fun W => awake_any W)
  have HLO := Lib.hid (long_any ops v w hs)
  cases hlr : longR ops
  · rw [hlr] at HLO
    have hol : ops.length ≤ 60 := by
      simp only [longR, Bool.or_eq_false_iff, decide_eq_false_iff_not] at hlr
      omega
    have HPL := Lib.hid (fun W (hW : Below w.heap.size w W) => play_any limit ops v W (hs.below hW (Nat.le_refl _)) (by omega) hf)
    have HKL : Hid ((playL (limOf limit) ops).length ≤ 60) := Lib.hid (Nat.le_trans (playL_len _ _) hol)
    generalize playL (limOf limit) ops = lk at *
    clear hlr hs hf hol
    generalize limOf limit = L at *
    by_cases h60 : (60 : Int) < (box.size : Int)
    · have t60 : decide ((60 : Int) < (box.size : Int)) = true := decide_eq_true h60
      clear h60
      go_enter Try.func5, Try.ntmps5
      go_wp2_with (first
        | ((with_reducible refine HLO.out.mono ?_); rintro e w1 ⟨rfl, hb1⟩; have HB := Lib.hid hb1; clear hb1)
        | ((with_reducible refine (HAW.out _).mono ?_); rintro e w9 ⟨rfl, hb9⟩; have HB := Lib.hid (HB.out.trans (hb9.mono HB.out.size)); clear hb9)
        | fail)
      go_ret
      exact ⟨rfl, HB.out⟩
    · have t60 : decide ((60 : Int) < (box.size : Int)) = false := decide_eq_false h60
      clear h60
      have HAT := Lib.hid (fun u W (h : Sl W 4 u (lk.map Bx.row)) => bAt_any lk box u W h)
      have HRE := Lib.hid (fun p bp bm W (h : Bst W bp bm L lk) => release_any lk L bp bm box p W h)
      obtain ⟨m, hm⟩ : ∃ m, m = bAt box 0 lk := ⟨_, rfl⟩
      rw [← hm] at HAT
      rcases bAt_find box lk 0 with ⟨h1, h2⟩ | ⟨j, hj, h1, h2⟩
      · have tm : decide (m < 0) = true := decide_eq_true (by omega)
        have tm2 : decide (0 ≤ m) = false := decide_eq_false (by omega)
        have hc := leaveC_none (rf := rfRel n) h2
        have HR4 := Lib.hid (HRE.out n)
        rw [hc] at HR4
        clear hm h1 h2 hc
        go_enter Try.func5, Try.ntmps5
        go_wp2_with (first
          | ((with_reducible refine HLO.out.mono ?_); rintro e w1 ⟨rfl, hb1⟩; have HB := Lib.hid hb1; clear hb1)
          | ((with_reducible refine (HPL.out _ HB.out).mono ?_); rintro e w2 ⟨bp, bm, vv, rfl, hs2, hv2, ho2, hp2, hb2⟩; obtain ⟨va, vc, rfl⟩ : ∃ a c, vv = .slice a lk.length c := (by simpa using hv2.shape); have HBS := Lib.hid hs2; have HSX := Lib.hid hv2; have HOF : Hid (Off (fun k => k = bp ∨ k = bm) (.slice va lk.length vc)) := Lib.hid (fun b hb h => h.elim (ho2 b hb).1 (ho2 b hb).2.1); have HPP := Lib.hid (And.intro (Nat.le_trans HB.out.size hp2.1) (Nat.le_trans HB.out.size hp2.2)); have HB := Lib.hid (HB.out.trans (hb2.mono HB.out.size)); clear hs2 hv2 ho2 hp2 hb2)
          | ((with_reducible refine (HAT.out _ _ HSX.out).mono ?_); rintro e w3 ⟨rfl, hb3⟩; have HB := Lib.hid (HB.out.trans (hb3.mono HB.out.size)); have HSX := Lib.hid (HSX.out.below hb3 (Nat.le_refl _)); have HBS := Lib.hid (HBS.out.below hb3); clear hb3)
          | ((with_reducible refine (HR4.out _ _ _ HBS.out).mono ?_); rintro e w31 ⟨rfl, hs31, hk31⟩; have HSX := Lib.hid (HSX.out.keep hk31 HOF.out); have HB := Lib.hid (hk31.behind HB.out HB.out.size (fun k hk h => by have := HPP.out; omega)); have HBS := Lib.hid hs31; clear hs31 hk31)
          | ((with_reducible refine (HAW.out _).mono ?_); rintro e w9 ⟨rfl, hb9⟩; have HB := Lib.hid (HB.out.trans (hb9.mono HB.out.size)); clear hb9)
          | fail)
        go_ret
        exact ⟨rfl, HB.out⟩
      · obtain rfl : m = (j : Int) := by rw [hm, h1, Nat.zero_add]
        have tm : decide ((j : Int) < 0) = false := decide_eq_false (by omega)
        have tm2 : decide ((0 : Int) ≤ (j : Int)) = true := decide_eq_true (by omega)
        have tj : ((j : Nat) : Int) < (lk.length : Int) := by omega
        have HCE := Lib.hid (fun a c W (h : Sl W 4 (.slice a lk.length c) (lk.map Bx.row)) => paid_cells lk j hj a c W h)
        clear h1 hm
        generalize lk[j] = y at *
        obtain ⟨yn, D, yd, s0⟩ := y
        simp only at HCE
        by_cases h0 : s0 = 0
        rotate_left
        · have ts : (s0 != 0) = true := by simp [h0]
          have hc := leaveC_gone (rf := rfRel n) h2 h0
          have HR4 := Lib.hid (HRE.out n)
          rw [hc] at HR4
          clear h2 hc h0
          go_enter Try.func5, Try.ntmps5
          go_wp2_with (first
            | ((with_reducible refine HLO.out.mono ?_); rintro e w1 ⟨rfl, hb1⟩; have HB := Lib.hid hb1; clear hb1)
            | ((with_reducible refine (HPL.out _ HB.out).mono ?_); rintro e w2 ⟨bp, bm, vv, rfl, hs2, hv2, ho2, hp2, hb2⟩; obtain ⟨va, vc, rfl⟩ : ∃ a c, vv = .slice a lk.length c := (by simpa using hv2.shape); have HBS := Lib.hid hs2; have HSX := Lib.hid hv2; have HOF : Hid (Off (fun k => k = bp ∨ k = bm) (.slice va lk.length vc)) := Lib.hid (fun b hb h => h.elim (ho2 b hb).1 (ho2 b hb).2.1); have HPP := Lib.hid (And.intro (Nat.le_trans HB.out.size hp2.1) (Nat.le_trans HB.out.size hp2.2)); have HB := Lib.hid (HB.out.trans (hb2.mono HB.out.size)); clear hs2 hv2 ho2 hp2 hb2)
            | ((with_reducible refine (HAT.out _ _ HSX.out).mono ?_); rintro e w3 ⟨rfl, hb3⟩; have HB := Lib.hid (HB.out.trans (hb3.mono HB.out.size)); have HSX := Lib.hid (HSX.out.below hb3 (Nat.le_refl _)); have HBS := Lib.hid (HBS.out.below hb3); obtain ⟨b, off, rfl, hbb, q1, q3⟩ := HCE.out _ _ _ HSX.out; have HCQ := Lib.hid (fun W (h : Sl W 4 (.slice (some ⟨b, off, none⟩) lk.length vc) (lk.map Bx.row)) => paid_at (HCE.out _ _ _ h)); clear hb3)
            | ((with_reducible refine (HR4.out _ _ _ HBS.out).mono ?_); rintro e w31 ⟨rfl, hs31, hk31⟩; have HSX := Lib.hid (HSX.out.keep hk31 HOF.out); have HB := Lib.hid (hk31.behind HB.out HB.out.size (fun k hk h => by have := HPP.out; omega)); have HBS := Lib.hid hs31; clear hs31 hk31)
            | ((with_reducible refine (HAW.out _).mono ?_); rintro e w9 ⟨rfl, hb9⟩; have HB := Lib.hid (HB.out.trans (hb9.mono HB.out.size)); clear hb9)
            | fail)
          go_ret
          exact ⟨rfl, HB.out⟩
        · subst h0
          have HUS := Lib.hid (fun l bp bm W (h : Bst W bp bm L l) => used_any l L bp bm W h)
          have HST := Lib.hid (fun l bp bm W (h : Bst W bp bm L l) => state_any l L bp bm box W h)
          have HR10 := Lib.hid (HRE.out (D - 1))
          rw [(rel_less h2 rfl (show D - 1 < D by omega)).1, (rel_less h2 rfl (show D - 1 < D by omega)).2] at HR10
          have HS0 := Lib.hid (HST.out lk)
          rw [show stateOf lk box = 0 by rw [stateOf, h2]] at HS0
          obtain ⟨DN, hDN⟩ : ∃ x, x = D + n := ⟨_, rfl⟩
          have HR0 := Lib.hid (HRE.out DN)
          rw [(rel_pays h2 rfl (show ¬ DN < D by omega)).1, (rel_pays h2 rfl (show ¬ DN < D by omega)).2] at HR0
          have hgone := rel_gone h2 D
          have hset := set_box h2 1
          have HUN := Lib.hid (fun (hn : (lk.map Bx.name).Nodup) => used_set (st := 1) hn h2 rfl (by decide))
          obtain ⟨l2, hl2⟩ : ∃ x, x = setSt lk box 1 := ⟨_, rfl⟩
          rw [← hl2] at HR0 hgone hset HUN
          have HR9 := Lib.hid (fun bp bm W (h : Bst W bp bm L l2) => release_any l2 L bp bm box D W h)
          rw [hgone] at HR9
          have HS1 := Lib.hid (HST.out l2)
          rw [show stateOf l2 box = 1 by rw [stateOf, hset]] at HS1
          have HD0 := Lib.hid (fun (hg : ∀ b ∈ lk, b.good) => (hg _ (boxOf_mem h2).1).d)
          simp only at HD0 HUN
          have HDN := Lib.hid hDN
          clear HRE HST h2 hgone hset hl2 hDN
          have tu1 : (usedOf lk != usedOf lk) = false := by simp
          go_enter Try.func5, Try.ntmps5
          go_wp2_with (first
            | ((with_reducible refine HLO.out.mono ?_); rintro e w1 ⟨rfl, hb1⟩; have HB := Lib.hid hb1; clear hb1)
            | ((with_reducible refine (HPL.out _ HB.out).mono ?_); rintro e w2 ⟨bp, bm, vv, rfl, hs2, hv2, ho2, hp2, hb2⟩; obtain ⟨va, vc, rfl⟩ : ∃ a c, vv = .slice a lk.length c := (by simpa using hv2.shape); have hD0 := HD0.out hs2.good; have hUN := HUN.out hs2.nodup; have hus := hs2.us; have hlm := hs2.lim; have eM : wrap64 (D - 1) = D - 1 := wrap_q (by omega); have eN : wrap64 (D + n) = DN := (by rw [HDN.out]; exact wrap_q (by omega)); have eD : wrap64 (usedOf lk - D) = usedOf l2 := (by rw [hUN]; exact wrap_q (by omega)); have HUN2 := Lib.hid hUN; clear hUN; have HBS := Lib.hid hs2; have HSX := Lib.hid hv2; have HOF : Hid (Off (fun k => k = bp ∨ k = bm) (.slice va lk.length vc)) := Lib.hid (fun b hb h => h.elim (ho2 b hb).1 (ho2 b hb).2.1); have HPP := Lib.hid (And.intro (Nat.le_trans HB.out.size hp2.1) (Nat.le_trans HB.out.size hp2.2)); have HB := Lib.hid (HB.out.trans (hb2.mono HB.out.size)); clear hs2 hv2 ho2 hp2 hb2)
            | ((with_reducible refine (HAT.out _ _ HSX.out).mono ?_); rintro e w3 ⟨rfl, hb3⟩; have HB := Lib.hid (HB.out.trans (hb3.mono HB.out.size)); have HSX := Lib.hid (HSX.out.below hb3 (Nat.le_refl _)); have HBS := Lib.hid (HBS.out.below hb3); obtain ⟨b, off, rfl, hbb, q1, q3⟩ := HCE.out _ _ _ HSX.out; have HCQ := Lib.hid (fun W (h : Sl W 4 (.slice (some ⟨b, off, none⟩) lk.length vc) (lk.map Bx.row)) => paid_at (HCE.out _ _ _ h)); clear hb3)
            | ((with_reducible refine (HUS.out _ _ _ _ HBS.out).mono ?_); rintro e w32 ⟨rfl, hb32⟩; have HB := Lib.hid (HB.out.trans (hb32.mono HB.out.size)); have HSX := Lib.hid (HSX.out.below hb32 (Nat.le_refl _)); have HBS := Lib.hid (HBS.out.below hb32); obtain ⟨-, q1, q3⟩ := HCQ.out _ HSX.out; clear hb32)
            | ((with_reducible refine (HR10.out _ _ _ HBS.out).mono ?_); rintro e w31 ⟨rfl, hs31, hk31⟩; have HSX := Lib.hid (HSX.out.keep hk31 HOF.out); have HB := Lib.hid (hk31.behind HB.out HB.out.size (fun k hk h => by have := HPP.out; omega)); have HBS := Lib.hid hs31; clear hs31 hk31)
            | ((with_reducible refine (HS0.out _ _ _ HBS.out).mono ?_); rintro e w33 ⟨rfl, hb33⟩; have HB := Lib.hid (HB.out.trans (hb33.mono HB.out.size)); have HSX := Lib.hid (HSX.out.below hb33 (Nat.le_refl _)); have HBS := Lib.hid (HBS.out.below hb33); clear hb33)
            | fail)
          obtain ⟨hbb', q1', -⟩ := HCQ.out _ HSX.out
          have HQ1 := Lib.hid q1'
          have HBB := Lib.hid hbb'
          have HLB : Hid (bp < w33.heap.size ∧ bm < w33.heap.size) := Lib.hid ⟨lt_blk HBS.out.box, by obtain ⟨es, hm, -⟩ := HBS.out.map; exact hm.lt⟩
          have tu2 : (usedOf l2 != usedOf l2) = false := by simp
          clear q1' hbb' hbb q1 q3
          refine Ord.region_lit (fun
            | 0 => Ord.val (.pointer (some ⟨bp, 0, none⟩))
            | 1 => Ord.val (.string box)
            | 2 => Ord.val (.slice (some ⟨b, off, none⟩) lk.length vc)
            | 3 => Ord.val (.int .i64 (j : Int))
            | 4 => Ord.val (.pointer (some ⟨b, off + j * 4, none⟩))
            | 5 => Ord.val (.pointer (some ⟨b, off + j * 4 + 1, none⟩))
            | 6 => Ord.val (.int .i64 D)
            | 7 => Ord.val (.int .u32 n)
            | 8 => Ord.val (.int .i64 n)
            | 9 => Ord.val (.int .i64 DN)
            | 10 => ⟨fun _ v O w => v = .int .i64 0 ∧ BO w bp bm L l2 O, [], fun k => k = bp ∨ k = bm⟩
            | 11 => Ord.val (.bool false)
            | 12 => Ord.val (.bool false)
            | 13 => Ord.val (.pointer (some ⟨bp, 0, none⟩))
            | 14 => Ord.val (.int .i64 (usedOf l2))
            | 15 => Ord.val (.int .i64 (usedOf lk))
            | 16 => Ord.val (.slice (some ⟨b, off, none⟩) lk.length vc)
            | 17 => Ord.val (.int .i64 (j : Int))
            | 18 => Ord.val (.pointer (some ⟨b, off + j * 4, none⟩))
            | 19 => Ord.val (.pointer (some ⟨b, off + j * 4 + 1, none⟩))
            | 20 => Ord.val (.int .i64 D)
            | 21 => Ord.val (.int .i64 (usedOf l2))
            | 22 => Ord.val (.bool false)
            | 23 => Ord.val (.bool false)
            | 24 => Ord.val (.bool false)
            | 25 => Ord.val (.pointer (some ⟨bp, 0, none⟩))
            | 26 => Ord.val (.string box)
            | 27 => Ord.val (.int .i64 1)
            | 28 => Ord.val (.bool false)
            | 29 => Ord.val (.bool false)
            | _ => Ord.idle) (fun k => k = bp ∨ k = bm) (by kernel_rfl) (by kernel_rfl) (by kernel_rfl) ?_ ?_ ?_ ?_
          · intro i _
            match i with
            | 0 => exact Ord.lasts_val _
            | 1 => exact Ord.lasts_val _
            | 2 => exact Ord.lasts_val _
            | 3 => exact Ord.lasts_val _
            | 4 => exact Ord.lasts_val _
            | 5 => exact Ord.lasts_val _
            | 6 => exact Ord.lasts_val _
            | 7 => exact Ord.lasts_val _
            | 8 => exact Ord.lasts_val _
            | 9 => exact Ord.lasts_val _
            | 10 => exact ⟨fun _ _ _ _ h => bo_range h.2, fun _ _ _ _ _ h _ _ _ hs => ⟨h.1, bo_same h.2 hs⟩⟩
            | 11 => exact Ord.lasts_val _
            | 12 => exact Ord.lasts_val _
            | 13 => exact Ord.lasts_val _
            | 14 => exact Ord.lasts_val _
            | 15 => exact Ord.lasts_val _
            | 16 => exact Ord.lasts_val _
            | 17 => exact Ord.lasts_val _
            | 18 => exact Ord.lasts_val _
            | 19 => exact Ord.lasts_val _
            | 20 => exact Ord.lasts_val _
            | 21 => exact Ord.lasts_val _
            | 22 => exact Ord.lasts_val _
            | 23 => exact Ord.lasts_val _
            | 24 => exact Ord.lasts_val _
            | 25 => exact Ord.lasts_val _
            | 26 => exact Ord.lasts_val _
            | 27 => exact Ord.lasts_val _
            | 28 => exact Ord.lasts_val _
            | 29 => exact Ord.lasts_val _
            | n + 30 => exact Ord.lasts_idle
          · refine ⟨fun k b _ hh => ?_, fun k b _ hh => ?_, fun k k' b _ _ hne h1 h2 => ?_⟩
            · match k, hh with
              | 0, hh => exact hh.elim
              | 1, hh => exact hh.elim
              | 2, hh => exact hh.elim
              | 3, hh => exact hh.elim
              | 4, hh => exact hh.elim
              | 5, hh => exact hh.elim
              | 6, hh => exact hh.elim
              | 7, hh => exact hh.elim
              | 8, hh => exact hh.elim
              | 9, hh => exact hh.elim
              | 10, hh => exact hh
              | 11, hh => exact hh.elim
              | 12, hh => exact hh.elim
              | 13, hh => exact hh.elim
              | 14, hh => exact hh.elim
              | 15, hh => exact hh.elim
              | 16, hh => exact hh.elim
              | 17, hh => exact hh.elim
              | 18, hh => exact hh.elim
              | 19, hh => exact hh.elim
              | 20, hh => exact hh.elim
              | 21, hh => exact hh.elim
              | 22, hh => exact hh.elim
              | 23, hh => exact hh.elim
              | 24, hh => exact hh.elim
              | 25, hh => exact hh.elim
              | 26, hh => exact hh.elim
              | 27, hh => exact hh.elim
              | 28, hh => exact hh.elim
              | 29, hh => exact hh.elim
              | m + 30, hh => exact hh.elim
            · match k, hh with
              | 0, hh => exact hh.elim
              | 1, hh => exact hh.elim
              | 2, hh => exact hh.elim
              | 3, hh => exact hh.elim
              | 4, hh => exact hh.elim
              | 5, hh => exact hh.elim
              | 6, hh => exact hh.elim
              | 7, hh => exact hh.elim
              | 8, hh => exact hh.elim
              | 9, hh => exact hh.elim
              | 10, hh => exact hh.elim (fun h => h ▸ HLB.out.1) (fun h => h ▸ HLB.out.2)
              | 11, hh => exact hh.elim
              | 12, hh => exact hh.elim
              | 13, hh => exact hh.elim
              | 14, hh => exact hh.elim
              | 15, hh => exact hh.elim
              | 16, hh => exact hh.elim
              | 17, hh => exact hh.elim
              | 18, hh => exact hh.elim
              | 19, hh => exact hh.elim
              | 20, hh => exact hh.elim
              | 21, hh => exact hh.elim
              | 22, hh => exact hh.elim
              | 23, hh => exact hh.elim
              | 24, hh => exact hh.elim
              | 25, hh => exact hh.elim
              | 26, hh => exact hh.elim
              | 27, hh => exact hh.elim
              | 28, hh => exact hh.elim
              | 29, hh => exact hh.elim
              | m + 30, hh => exact hh.elim
            · have a : (k = 10 ∧ (fun k => k = bp ∨ k = bm) b) := by
                match k, h1 with
                | 0, hh => exact hh.elim
                | 1, hh => exact hh.elim
                | 2, hh => exact hh.elim
                | 3, hh => exact hh.elim
                | 4, hh => exact hh.elim
                | 5, hh => exact hh.elim
                | 6, hh => exact hh.elim
                | 7, hh => exact hh.elim
                | 8, hh => exact hh.elim
                | 9, hh => exact hh.elim
                | 10, hh => exact ⟨rfl, hh⟩
                | 11, hh => exact hh.elim
                | 12, hh => exact hh.elim
                | 13, hh => exact hh.elim
                | 14, hh => exact hh.elim
                | 15, hh => exact hh.elim
                | 16, hh => exact hh.elim
                | 17, hh => exact hh.elim
                | 18, hh => exact hh.elim
                | 19, hh => exact hh.elim
                | 20, hh => exact hh.elim
                | 21, hh => exact hh.elim
                | 22, hh => exact hh.elim
                | 23, hh => exact hh.elim
                | 24, hh => exact hh.elim
                | 25, hh => exact hh.elim
                | 26, hh => exact hh.elim
                | 27, hh => exact hh.elim
                | 28, hh => exact hh.elim
                | 29, hh => exact hh.elim
                | m + 30, hh => exact hh.elim
              have a' : (k' = 10 ∧ (fun k => k = bp ∨ k = bm) b) := by
                match k', h2 with
                | 0, hh => exact hh.elim
                | 1, hh => exact hh.elim
                | 2, hh => exact hh.elim
                | 3, hh => exact hh.elim
                | 4, hh => exact hh.elim
                | 5, hh => exact hh.elim
                | 6, hh => exact hh.elim
                | 7, hh => exact hh.elim
                | 8, hh => exact hh.elim
                | 9, hh => exact hh.elim
                | 10, hh => exact ⟨rfl, hh⟩
                | 11, hh => exact hh.elim
                | 12, hh => exact hh.elim
                | 13, hh => exact hh.elim
                | 14, hh => exact hh.elim
                | 15, hh => exact hh.elim
                | 16, hh => exact hh.elim
                | 17, hh => exact hh.elim
                | 18, hh => exact hh.elim
                | 19, hh => exact hh.elim
                | 20, hh => exact hh.elim
                | 21, hh => exact hh.elim
                | 22, hh => exact hh.elim
                | 23, hh => exact hh.elim
                | 24, hh => exact hh.elim
                | 25, hh => exact hh.elim
                | 26, hh => exact hh.elim
                | 27, hh => exact hh.elim
                | 28, hh => exact hh.elim
                | 29, hh => exact hh.elim
                | m + 30, hh => exact hh.elim
              rcases a with ⟨rfl, a⟩ <;> rcases a' with ⟨rfl, a'⟩
              all_goals first | exact absurd rfl hne | (exact hne rfl)
          · refine ⟨?_, ?_, ?_, ?_, ?_, ?_, ?_, ?_, ?_, ?_, ?_, ?_, ?_, ?_, ?_, ?_, ?_, ?_, ?_, ?_, ?_, ?_, ?_, ?_, ?_, ?_, ?_, ?_, ?_, ?_, trivial⟩
            · refine Ord.owes_plain rfl fun ρ Os wo hs' hb hc' => ?_
              have h9 : ρ (.tmp 9) = .pointer (some ⟨bp, 0, none⟩) := hs'.old' 9 (by kernel_rfl)
              exact Any.ok_move (Ord.post_val rfl h9)
            · refine Ord.owes_plain rfl fun ρ Os wo hs' hb hc' => ?_
              have h2 : ρ (.tmp 2) = .string box := hs'.old' 2 (by kernel_rfl)
              exact Any.ok_move (Ord.post_val rfl h2)
            · refine Ord.owes_plain rfl fun ρ Os wo hs' hb hc' => ?_
              have h10 : ρ (.tmp 10) = .slice (some ⟨b, off, none⟩) lk.length vc := hs'.old' 10 (by kernel_rfl)
              exact Any.ok_move (Ord.post_val rfl h10)
            · refine Ord.owes_plain rfl fun ρ Os wo hs' hb hc' => ?_
              have h11 : ρ (.tmp 11) = .int .i64 (j : Int) := hs'.old' 11 (by kernel_rfl)
              exact Any.ok_move (Ord.post_val rfl h11)
            · refine Ord.owes_plain rfl fun ρ Os wo hs' hb hc' => ?_
              have h80 : ρ (.tmp 80) = .slice (some ⟨b, off, none⟩) lk.length vc := hs'.val' 80 2 (by kernel_rfl) rfl
              have h81 : ρ (.tmp 81) = .int .i64 (j : Int) := hs'.val' 81 3 (by kernel_rfl) rfl
              go_simp
              exact Ord.post_val rfl rfl
            · refine Ord.owes_plain rfl fun ρ Os wo hs' hb hc' => ?_
              have h82 : ρ (.tmp 82) = .pointer (some ⟨b, off + j * 4, none⟩) := hs'.val' 82 4 (by kernel_rfl) rfl
              go_simp
              exact Ord.post_val rfl rfl
            · refine Ord.owes_plain rfl fun ρ Os wo hs' hb hc' => ?_
              have h83 : ρ (.tmp 83) = .pointer (some ⟨b, off + j * 4 + 1, none⟩) := hs'.val' 83 5 (by kernel_rfl) rfl
              have c0 : wo.cell? ⟨b, off + j * 4 + 1, none⟩ = some (.int .i64 D) := (hb.cell HBB.out (HOF.out b rfl)).trans HQ1.out
              go_simp
              exact Ord.post_val rfl rfl
            · refine Ord.owes_plain rfl fun ρ Os wo hs' hb hc' => ?_
              have h3 : ρ (.tmp 3) = .int .u32 n := hs'.old' 3 (by kernel_rfl)
              exact Any.ok_move (Ord.post_val rfl h3)
            · refine Ord.owes_plain rfl fun ρ Os wo hs' hb hc' => ?_
              have h85 : ρ (.tmp 85) = .int .u32 n := hs'.val' 85 7 (by kernel_rfl) rfl
              go_simp
              exact Ord.post_val rfl (wrap_in (by omega))
            · refine Ord.owes_plain rfl fun ρ Os wo hs' hb hc' => ?_
              have h84 : ρ (.tmp 84) = .int .i64 D := hs'.val' 84 6 (by kernel_rfl) rfl
              have h86 : ρ (.tmp 86) = .int .i64 n := hs'.val' 86 8 (by kernel_rfl) rfl
              go_simp
              exact Ord.post_val rfl (by rw [HDN.out]; exact wrap_in (by omega))
            · refine Ord.owes_plain rfl fun ρ Os wo hs' hb hc' => ?_
              have h78 : ρ (.tmp 78) = .pointer (some ⟨bp, 0, none⟩) := hs'.val' 78 0 (by kernel_rfl) rfl
              have h79 : ρ (.tmp 79) = .string box := hs'.val' 79 1 (by kernel_rfl) rfl
              have h87 : ρ (.tmp 87) = .int .i64 DN := hs'.val' 87 9 (by kernel_rfl) rfl
              have hf := hs'.func 18
              go_simp
              exact (HR0.out _ _ wo (bst_same HBS.out (hs'.here bp (.inl rfl)) (hs'.here bm (.inr rfl)))).mono fun e w' ⟨he, hs2, hk2⟩ => ⟨_, he, Ord.post_turn ⟨rfl, hs2, fun _ => Iff.rfl⟩ hk2 (fun b hb => .inl hb)⟩
            · refine Ord.owes_plain rfl fun ρ Os wo hs' hb hc' => ?_
              obtain ⟨_, e10, -⟩ := hs'.new' 88 10 (by kernel_rfl)
              go_simp
              exact Ord.post_val rfl rfl
            · refine Ord.owes_plain rfl fun ρ Os wo hs' hb hc' => ?_
              have h89 : ρ (.tmp 89) = .bool false := hs'.val' 89 11 (by kernel_rfl) rfl
              exact Any.ok_move (Ord.post_val rfl h89)
            · refine Ord.owes_on rfl rfl (by kernel_rfl) rfl fun ρ Os wo hs' hb hc' => ?_
              have h9 : ρ (.tmp 9) = .pointer (some ⟨bp, 0, none⟩) := hs'.old' 9 (by kernel_rfl)
              exact Any.ok_move (Ord.post_val rfl h9)
            · refine Ord.owes_on rfl rfl (by kernel_rfl) rfl fun ρ Os wo hs' hb hc' => ?_
              have h91 : ρ (.tmp 91) = .pointer (some ⟨bp, 0, none⟩) := hs'.val' 91 13 (by kernel_rfl) rfl
              have hf := hs'.func 19
              obtain ⟨_, _, -, k10⟩ := hs'.stood' 10 (by kernel_rfl)
              go_simp
              exact (HUS.out _ _ _ wo k10.1).mono fun e w' ⟨he, hb'⟩ => ⟨_, he, Ord.post_vals rfl rfl hb'⟩
            · refine Ord.owes_on rfl rfl (by kernel_rfl) rfl fun ρ Os wo hs' hb hc' => ?_
              have h12 : ρ (.tmp 12) = .int .i64 (usedOf lk) := hs'.old' 12 (by kernel_rfl)
              exact Any.ok_move (Ord.post_val rfl h12)
            · refine Ord.owes_on rfl rfl (by kernel_rfl) rfl fun ρ Os wo hs' hb hc' => ?_
              have h10 : ρ (.tmp 10) = .slice (some ⟨b, off, none⟩) lk.length vc := hs'.old' 10 (by kernel_rfl)
              exact Any.ok_move (Ord.post_val rfl h10)
            · refine Ord.owes_on rfl rfl (by kernel_rfl) rfl fun ρ Os wo hs' hb hc' => ?_
              have h11 : ρ (.tmp 11) = .int .i64 (j : Int) := hs'.old' 11 (by kernel_rfl)
              exact Any.ok_move (Ord.post_val rfl h11)
            · refine Ord.owes_on rfl rfl (by kernel_rfl) rfl fun ρ Os wo hs' hb hc' => ?_
              have h94 : ρ (.tmp 94) = .slice (some ⟨b, off, none⟩) lk.length vc := hs'.val' 94 16 (by kernel_rfl) rfl
              have h95 : ρ (.tmp 95) = .int .i64 (j : Int) := hs'.val' 95 17 (by kernel_rfl) rfl
              go_simp
              exact Ord.post_val rfl rfl
            · refine Ord.owes_on rfl rfl (by kernel_rfl) rfl fun ρ Os wo hs' hb hc' => ?_
              have h96 : ρ (.tmp 96) = .pointer (some ⟨b, off + j * 4, none⟩) := hs'.val' 96 18 (by kernel_rfl) rfl
              go_simp
              exact Ord.post_val rfl rfl
            · refine Ord.owes_on rfl rfl (by kernel_rfl) rfl fun ρ Os wo hs' hb hc' => ?_
              have h97 : ρ (.tmp 97) = .pointer (some ⟨b, off + j * 4 + 1, none⟩) := hs'.val' 97 19 (by kernel_rfl) rfl
              have c0 : wo.cell? ⟨b, off + j * 4 + 1, none⟩ = some (.int .i64 D) := (hb.cell HBB.out (HOF.out b rfl)).trans HQ1.out
              go_simp
              exact Ord.post_val rfl rfl
            · refine Ord.owes_on rfl rfl (by kernel_rfl) rfl fun ρ Os wo hs' hb hc' => ?_
              have h93 : ρ (.tmp 93) = .int .i64 (usedOf lk) := hs'.val' 93 15 (by kernel_rfl) rfl
              have h98 : ρ (.tmp 98) = .int .i64 D := hs'.val' 98 20 (by kernel_rfl) rfl
              go_simp
              exact Ord.post_val rfl (by rw [HUN2.out]; exact wrap_in (by omega))
            · refine Ord.owes_on rfl rfl (by kernel_rfl) rfl fun ρ Os wo hs' hb hc' => ?_
              have h92 : ρ (.tmp 92) = .int .i64 (usedOf l2) := hs'.val' 92 14 (by kernel_rfl) rfl
              have h99 : ρ (.tmp 99) = .int .i64 (usedOf l2) := hs'.val' 99 21 (by kernel_rfl) rfl
              go_simp
              exact Ord.post_val rfl rfl
            · refine Ord.owes_plain rfl fun ρ Os wo hs' hb hc' => ?_
              have h90 : ρ (.tmp 90) = .bool false := hs'.val' 90 12 (by kernel_rfl) rfl
              have h100 : ρ (.tmp 100) = .bool false := hs'.val' 100 22 (by kernel_rfl) rfl
              exact Any.ok_pick (b := false) h90 (Ord.post_val rfl h100)
            · refine Ord.owes_plain rfl fun ρ Os wo hs' hb hc' => ?_
              have h101 : ρ (.tmp 101) = .bool false := hs'.val' 101 23 (by kernel_rfl) rfl
              exact Any.ok_move (Ord.post_val rfl h101)
            · refine Ord.owes_on rfl rfl (by kernel_rfl) rfl fun ρ Os wo hs' hb hc' => ?_
              have h9 : ρ (.tmp 9) = .pointer (some ⟨bp, 0, none⟩) := hs'.old' 9 (by kernel_rfl)
              exact Any.ok_move (Ord.post_val rfl h9)
            · refine Ord.owes_on rfl rfl (by kernel_rfl) rfl fun ρ Os wo hs' hb hc' => ?_
              have h2 : ρ (.tmp 2) = .string box := hs'.old' 2 (by kernel_rfl)
              exact Any.ok_move (Ord.post_val rfl h2)
            · refine Ord.owes_on rfl rfl (by kernel_rfl) rfl fun ρ Os wo hs' hb hc' => ?_
              have h103 : ρ (.tmp 103) = .pointer (some ⟨bp, 0, none⟩) := hs'.val' 103 25 (by kernel_rfl) rfl
              have h104 : ρ (.tmp 104) = .string box := hs'.val' 104 26 (by kernel_rfl) rfl
              have hf := hs'.func 20
              obtain ⟨_, _, -, k10⟩ := hs'.stood' 10 (by kernel_rfl)
              go_simp
              exact (HS1.out _ _ wo k10.1).mono fun e w' ⟨he, hb'⟩ => ⟨_, he, Ord.post_vals rfl rfl hb'⟩
            · refine Ord.owes_on rfl rfl (by kernel_rfl) rfl fun ρ Os wo hs' hb hc' => ?_
              have h105 : ρ (.tmp 105) = .int .i64 1 := hs'.val' 105 27 (by kernel_rfl) rfl
              go_simp
              exact Ord.post_val rfl rfl
            · refine Ord.owes_plain rfl fun ρ Os wo hs' hb hc' => ?_
              have h102 : ρ (.tmp 102) = .bool false := hs'.val' 102 24 (by kernel_rfl) rfl
              have h106 : ρ (.tmp 106) = .bool false := hs'.val' 106 28 (by kernel_rfl) rfl
              exact Any.ok_pick (b := false) h102 (Ord.post_val rfl h106)
          · intro vals Os ρs w40 hk hkn hln hap hbd
            have h29 := (hkn 29 (by kernel_rfl)).1
            obtain ⟨-, k10⟩ := hkn 10 (by kernel_rfl)
            have HBS := Lib.hid k10.1
            have HSX := Lib.hid (HSX.out.keep hk HOF.out)
            have HB := Lib.hid (hk.behind HB.out HB.out.size (fun k hk h => by have := HPP.out; omega))
            obtain ⟨-, q1, -⟩ := HCQ.out _ HSX.out
            clear hkn hln hap hbd k10 hk
            simp only [Any.putAll]
            go_frame
            simp only [Nat.zero_add, Nat.reduceAdd]
            rw [h29]
            go_wp2_with (first
              | ((with_reducible refine (HR9.out _ _ _ HBS.out).mono ?_); rintro e w41 ⟨rfl, hs41, hk41⟩; have HSX := Lib.hid (HSX.out.keep hk41 HOF.out); have HB := Lib.hid (hk41.behind HB.out HB.out.size (fun k hk h => by have := HPP.out; omega)); have HBS := Lib.hid hs41; clear hs41 hk41)
              | ((with_reducible refine (HAW.out _).mono ?_); rintro e w9 ⟨rfl, hb9⟩; have HB := Lib.hid (HB.out.trans (hb9.mono HB.out.size)); clear hb9)
              | fail)
            go_ret
            exact ⟨rfl, HB.out⟩
  · rw [hlr] at HLO
    clear hlr hs hf
    go_enter Try.func5, Try.ntmps5
    go_wp2_with (first
      | ((with_reducible refine HLO.out.mono ?_); rintro e w1 ⟨rfl, hb1⟩; have HB := Lib.hid hb1; clear hb1)
      | ((with_reducible refine (HAW.out _).mono ?_); rintro e w9 ⟨rfl, hb9⟩; have HB := Lib.hid (HB.out.trans (hb9.mono HB.out.size)); clear hb9)
      | fail)
    go_ret
    exact ⟨rfl, HB.out⟩

theorem lifted (os : Os) (started : os.Started) (H : Type) (enc : TypeId × Value → H) :
    ReturnsInHanded {} Try.checked os 5 .any (Rows.dutyPaidSpec.pre6 enc Try.prog Try.f5 Rows.dutyPaidRow.domain false) (Rows.dutyPaidSpec.post enc Try.prog Try.f5 false true false false) := by
  refine law_lifted os started (by kernel_rfl) Try.func5
    (ChangeSpec.witness6 (enc := enc) (C := Try.checked) false ⟨#[], #[.int .i64 0, .slice none 0 0, .string ⟨#[]⟩, .int .u32 0], []⟩ 8 (by kernel_rfl) (by kernel_rfl) (by kernel_rfl) (by kernel_rfl))
    (by kernel_rfl) rfl rfl ?_ ?_
  · intro vs ds W p hA
    rw [Try.params5] at hA
    obtain ⟨v0, vs0, d0, ds0, p0, q0, rfl, rfl, rfl, h0, r0⟩ := trodAll_cons hA
    obtain ⟨v1, vs1, d1, ds1, p1, q1, rfl, rfl, rfl, h1, r1⟩ := trodAll_cons r0
    obtain ⟨v2, vs2, d2, ds2, p2, q2, rfl, rfl, rfl, h2, r2⟩ := trodAll_cons r1
    obtain ⟨v3, vs3, d3, ds3, p3, q3, rfl, rfl, rfl, h3, r3⟩ := trodAll_cons r2
    obtain ⟨rfl, rfl, rfl⟩ := trodAll_nil r3
    rfl
  · intro W base args ds p hval hA
    rw [Try.params5] at hA hval
    obtain ⟨v0, vs0, d0, ds0, p0, q0, hargs, rfl, rfl, h0, r0⟩ := trodAll_cons hA
    obtain ⟨v1, vs1, d1, ds1, p1, q1, rfl, rfl, rfl, h1, r1⟩ := trodAll_cons r0
    obtain ⟨v2, vs2, d2, ds2, p2, q2, rfl, rfl, rfl, h2, r2⟩ := trodAll_cons r1
    obtain ⟨v3, vs3, d3, ds3, p3, q3, rfl, rfl, rfl, h3, r3⟩ := trodAll_cons r2
    obtain ⟨rfl, rfl, rfl⟩ := trodAll_nil r3
    obtain rfl : args = #[v0, v1, v2, v3] := by cases args; simp_all
    obtain ⟨a0, rfl, rfl, rfl, w0⟩ := open_int Try.underlying2 (hval 0 2 v0 rfl rfl) h0
    obtain ⟨l1, hs1, hf1⟩ := open_ops45 (hval 1 37 v1 rfl rfl) h1
    obtain ⟨a2, rfl, rfl, rfl, w2⟩ := Go.ChangeMaps.open_string Try.underlying9 (hval 2 9 v2 rfl rfl) h2
    obtain ⟨a3, rfl, rfl, rfl, w3⟩ := open_int Try.underlying35 (hval 3 35 v3 rfl rfl) h3
    exact walk W a0 w0 l1 v1 hs1 hf1 a2 w2 a3 w3

theorem over : Rows.dutyPaidRow.holds Try.pinned (OpenSpec.ofChange Rows.dutyPaidSpec) :=
  OpenClaim.holds_of_wide 5 Try.f5 rfl rfl rfl rfl rfl rfl rfl ⟨rfl, rfl, rfl, rfl, rfl⟩ rfl rfl rfl rfl rfl (by kernel_rfl) Try.func5 (by kernel_rfl)
    (of_decide_eq_true (by kernel_rfl)) (by unfold Func.isWrapper; rw [if_neg (by decide +kernel)]; exact ⟨rfl, rfl⟩)
    (fun os started H enc _ => lifted os started H enc)

/-- The statement. -/
theorem proved : Rows.DutyPaidSaid := over
#print axioms proved
end Go.Proofs.Ytehlhfcaajhhaaa.dutyPaid
