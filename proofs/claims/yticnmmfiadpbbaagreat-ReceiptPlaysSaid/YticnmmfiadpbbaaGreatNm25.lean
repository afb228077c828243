/- Names, lots that may be, and whether a text is one of some: by the program and by the document. -/
import Derived.Test.YticnmmfiadpbbaaGreatRcB25
import Derived.Test.YticnmmfiadpbbaaGreatLtCnt
import Derived.Test.YticnmmfiadpbbaaGreatStrRows
namespace Go.Proofs.YticnmmfiadpbbaaGreat.Sc
open Go Go.RowKit Go.ChangeShapes Go.WideShapes Go.ChangeAt
set_option maxRecDepth 100000

set_option maxHeartbeats 1000000 in
theorem rcName_any (s : ByteArray) (w : World) : Calls Tryz.prog 29 #[.string s] w (RetB w (nameOk s)) := by
  by_cases hn : 1 ≤ s.size ∧ s.size ≤ 16
  · obtain ⟨h1, h2⟩ := hn
    have t1 : decide ((s.size : Int) < 1) = false := by simp; omega
    have t2 : decide ((16 : Int) < (s.size : Int)) = false := by simp; omega
    have HN : Hid (nameOk s = charsOk (s.data.toList.drop 0)) := Lib.hid (by simp [nameOk, h1, h2])
    go_enter Tryz.func29, Tryz.ntmps29
    go_wp2
    go_loopw [15] (fun i wr => ∃ k : Nat, k ≤ s.size ∧ i = .int .i64 k ∧ nameOk s = charsOk (s.data.toList.drop k) ∧ Below w.heap.size w wr) (fun i _ => s.size - (intOf i).toNat)
    case atStart => exact ⟨0, Nat.zero_le _, rfl, HN.out, Below.refl _ _⟩
    case round =>
      obtain ⟨k, hk, rfl, hrel, hbel⟩ := hrel
      by_cases hlt : k < s.size
      · rw [chars_step s k hlt] at hrel
        have HR := Lib.hid hrel
        clear hrel t1 t2 h1
        go_wp2
        all_goals first
          | (go_roundw
             case rel => exact ⟨k + 1, by omega, by go_num, by
                have hc : chI ((s[k]'hlt).toNat : Int) = true := by
                  generalize ((s[k]'hlt).toNat : Int) = c at *
                  simp [chI] at *; omega
                rw [HR.out, hc, Bool.true_and], hbel⟩
             case measure => simp [intOf]; omega)
          | (go_ret
             exact retB (by
                have hc : chI ((s[k]'hlt).toNat : Int) = false := by
                  generalize ((s[k]'hlt).toNat : Int) = c at *
                  simp [chI] at *; omega
                rw [HR.out, hc, Bool.false_and]) hbel)
      · have HR := Lib.hid hrel
        clear hrel
        go_wp2
        go_ret
        exact retB (by rw [HR.out, chars_end s k (by omega)]) hbel
  · have HN : Hid (nameOk s = false) := Lib.hid (by
      simp only [nameOk]
      by_cases h1 : 1 ≤ s.size
      · have h2 : ¬ s.size ≤ 16 := fun h => hn ⟨h1, h⟩
        simp only [h2, decide_false, Bool.false_and, Bool.and_false]
      · simp only [h1, decide_false, Bool.false_and])
    go_enter Tryz.func29, Tryz.ntmps29
    by_cases h1 : 1 ≤ s.size
    · have t1 : decide ((s.size : Int) < 1) = false := by simp; omega
      have t2 : decide ((16 : Int) < (s.size : Int)) = true := by simp; omega
      clear hn
      go_wp2
      go_ret
      exact retB HN.out.symm (Below.refl _ _)
    · have t1 : decide ((s.size : Int) < 1) = true := by simp; omega
      clear hn
      go_wp2
      go_ret
      exact retB HN.out.symm (Below.refl _ _)

set_option maxHeartbeats 1000000 in
theorem refName5_any (s : ByteArray) (w : World) (hm : s.size ≤ 9223372036854775807) : Calls Tryz.prog 95 #[.string s] w (RetB w (nameOk s)) := by
  go_enter Tryz.func95, Tryz.ntmps95
  go_wp2
  go_loopw [3] (fun i wr => ∃ k : Nat, k ≤ s.size ∧ i = .int .i64 k ∧ charsOk s.data.toList = charsOk (s.data.toList.drop k) ∧ Below w.heap.size w wr) (fun i _ => s.size - (intOf i).toNat)
  case atStart => exact ⟨0, Nat.zero_le _, rfl, rfl, Below.refl _ _⟩
  case round =>
    obtain ⟨k, hk, rfl, hrel, hbel⟩ := hrel
    by_cases hlt : k < s.size
    · rw [chars_step s k hlt] at hrel
      have HR := Lib.hid hrel
      clear hrel
      go_wp2
      all_goals first
        | (go_roundw
           case rel => exact ⟨k + 1, by omega, by go_num, by
              have hc : chI ((s[k]'hlt).toNat : Int) = true := by
                generalize ((s[k]'hlt).toNat : Int) = c at *
                simp [chI] at *; omega
              rw [HR.out, hc, Bool.true_and], hbel⟩
           case measure => simp [intOf]; omega)
        | (go_ret
           exact retB (by
              have hc : chI ((s[k]'hlt).toNat : Int) = false := by
                generalize ((s[k]'hlt).toNat : Int) = c at *
                simp [chI] at *; omega
              rw [nameOk, HR.out, hc, Bool.false_and, Bool.and_false, Bool.and_false]) hbel)
    · have HR := Lib.hid hrel
      clear hrel
      go_wp2
      all_goals
        go_ret
        exact retB (by rw [nameOk, HR.out, chars_end s k (by omega), Bool.and_true, Bool.eq_iff_iff]; simp only [Bool.and_eq_true, decide_eq_true_eq, Bool.false_eq_true, false_iff]; omega) hbel

theorem refName25_any (s : ByteArray) (w : World) (hm : s.size ≤ 9223372036854775807) : Calls Tryz.prog 72 #[.string s] w (RetB w (nameOk s)) := by
  have HN := Lib.hid (fun W => refName5_any s W hm)
  generalize nameOk s = b at *
  go_enter Tryz.func72, Tryz.ntmps72
  go_wp2_with (first | ((with_reducible refine (HN.out _).mono ?_); rintro e w2 ⟨rfl, hb2⟩; have HB2 := Lib.hid hb2; clear hb2) | fail)
  go_ret
  exact ⟨rfl, HB2.out⟩
theorem all_next {α : Type} {l : List α} {k : Nat} (h : k < l.length) (f : α → Bool) : (l.drop k).all f = (f l[k] && (l.drop (k + 1)).all f) := by rw [List.drop_eq_getElem_cons h, List.all_cons]
theorem any_next {α : Type} {l : List α} {k : Nat} (h : k < l.length) (f : α → Bool) : (l.drop k).any f = (f l[k] || (l.drop (k + 1)).any f) := by rw [List.drop_eq_getElem_cons h, List.any_cons]
set_option maxHeartbeats 4000000 in
theorem lotsMay_any (l : List Lt) (v : Value) (w : World) (hs : Sl w 2 v (l.map Lt.row)) : Calls Tryz.prog 30 #[v] w (RetB w (lotsOk l)) := by
  have hll : l.length ≤ 9223372036854775807 := by have := hs.len_le; simp only [List.length_map, maxLen] at this; omega
  obtain ⟨a, c, rfl⟩ : ∃ a c, v = .slice a l.length c := by simpa using hs.shape
  have HS := Lib.hid hs
  obtain ⟨f, hff⟩ : ∃ f : Lt → Bool, f = lotOk := ⟨_, rfl⟩
  obtain ⟨R, hR⟩ : ∃ R, R = lotsOk l := ⟨_, rfl⟩
  have HR0 : Hid (R = (l.all f && decide (0 < l.length))) := Lib.hid (by rw [hR, hff, lotsOk])
  have HF : Hid (∀ n c, f ⟨n, c⟩ = (nameOk n && (decide (1 ≤ c) && decide (c ≤ 1048576)))) := Lib.hid (fun n c => by rw [hff]; rfl)
  rw [← hR]
  clear hR hff hs
  go_enter Tryz.func30, Tryz.ntmps30
  go_wp2_with fail
  go_loopw [7] (fun i wr => ∃ k : Nat, k ≤ l.length ∧ i = .int .i64 k ∧ l.all f = (l.drop k).all f ∧ Below w.heap.size w wr) (fun i _ => l.length - (intOf i).toNat)
  case atStart => exact ⟨0, Nat.zero_le _, rfl, rfl, Below.refl _ _⟩
  case round =>
    obtain ⟨k, hk, rfl, hrel, hbel⟩ := hrel
    have HBEL := Lib.hid hbel
    by_cases hlt : k < l.length
    · obtain ⟨b, off, rfl, -, hb, hc⟩ := HS.out.at (i := k) (by simpa using hlt)
      have d0 := (hbel.cell (p := ⟨b, off + k * 2, none⟩) hb).trans (hc k l[k].row (by simp [hlt]) 0 _ rfl)
      have d1 := (hbel.cell (p := ⟨b, off + k * 2 + 1, none⟩) hb).trans (hc k l[k].row (by simp [hlt]) 1 _ rfl)
      rw [all_next hlt] at hrel
      generalize l[k] = x at *
      obtain ⟨xn, xc⟩ := x
      simp only at d0 d1
      rw [HF.out] at hrel
      have NM := Lib.hid (fun W => rcName_any xn W)
      clear hc hbel
      generalize nameOk xn = B at *
      have HREL := Lib.hid hrel
      clear hrel
      cases B
      · have HQ : Hid (R = false) := Lib.hid (by rw [HR0.out, HREL.out]; rfl)
        go_wp2_with (first
          | ((with_reducible refine (NM.out _).mono ?_); rintro e w2 ⟨rfl, hb2⟩; have HB2 := Lib.hid (HBEL.out.trans ((below_then (one_below _ _) hb2).mono HBEL.out.size)); clear hb2)
          | fail)
        go_ret
        exact retB HQ.out.symm HB2.out
      by_cases h1 : xc < 1
      · have t1 : decide (xc < 1) = true := decide_eq_true h1
        have HQ : Hid (R = false) := Lib.hid (by rw [HR0.out, HREL.out, decide_eq_false (show ¬ 1 ≤ xc by omega)]; rfl)
        clear h1
        go_wp2_with (first
          | ((with_reducible refine (NM.out _).mono ?_); rintro e w2 ⟨rfl, hb2⟩; have e1 := cell_blk (blk hb2 (by simp) (heap_alloc_new _ _)) 1; have HB2 := Lib.hid (HBEL.out.trans ((below_then (one_below _ _) hb2).mono HBEL.out.size)); clear hb2)
          | fail)
        go_ret
        exact retB HQ.out.symm HB2.out
      have t1 : decide (xc < 1) = false := decide_eq_false h1
      by_cases h2 : 1048576 < xc
      · have t2 : decide (1048576 < xc) = true := decide_eq_true h2
        have HQ : Hid (R = false) := Lib.hid (by rw [HR0.out, HREL.out, decide_eq_false (show ¬ xc ≤ 1048576 by omega)]; simp)
        clear h1 h2
        go_wp2_with (first
          | ((with_reducible refine (NM.out _).mono ?_); rintro e w2 ⟨rfl, hb2⟩; have e1 := cell_blk (blk hb2 (by simp) (heap_alloc_new _ _)) 1; have HB2 := Lib.hid (HBEL.out.trans ((below_then (one_below _ _) hb2).mono HBEL.out.size)); clear hb2)
          | fail)
        go_ret
        exact retB HQ.out.symm HB2.out
      have t2 : decide (1048576 < xc) = false := decide_eq_false h2
      have HQ : Hid (l.all f = (l.drop (k + 1)).all f) := Lib.hid (by rw [HREL.out, decide_eq_true (show 1 ≤ xc by omega), decide_eq_true (show xc ≤ 1048576 by omega)]; rfl)
      clear h1 h2
      go_wp2_with (first
        | ((with_reducible refine (NM.out _).mono ?_); rintro e w2 ⟨rfl, hb2⟩; have e1 := cell_blk (blk hb2 (by simp) (heap_alloc_new _ _)) 1; have HB2 := Lib.hid (HBEL.out.trans ((below_then (one_below _ _) hb2).mono HBEL.out.size)); clear hb2)
        | fail)
      go_roundw
      case rel => exact ⟨k + 1, by omega, by go_num, HQ.out, HB2.out⟩
      case measure => (simp [intOf]) <;> omega
    · have HQ : Hid (R = decide (0 < l.length)) := Lib.hid (by rw [HR0.out, hrel, List.drop_of_length_le (by omega)]; rfl)
      clear hrel hbel
      go_wp2_with fail
      go_ret
      exact retB (by rw [HQ.out]) HBEL.out
set_option maxHeartbeats 4000000 in
theorem refLots_any (l : List Lt) (v : Value) (w : World) (hs : Sl w 2 v (l.map Lt.row)) (hf : ∀ x ∈ l, x.fit) : Calls Tryz.prog 73 #[v] w (RetB w (lotsOk l)) := by
  have hll : l.length ≤ 9223372036854775807 := by have := hs.len_le; simp only [List.length_map, maxLen] at this; omega
  obtain ⟨a, c, rfl⟩ : ∃ a c, v = .slice a l.length c := by simpa using hs.shape
  have HS := Lib.hid hs
  have HFT := Lib.hid hf
  obtain ⟨f, hff⟩ : ∃ f : Lt → Bool, f = lotOk := ⟨_, rfl⟩
  obtain ⟨R, hR⟩ : ∃ R, R = lotsOk l := ⟨_, rfl⟩
  have HR0 : Hid (R = (l.all f && decide (0 < l.length))) := Lib.hid (by rw [hR, hff, lotsOk])
  have HF : Hid (∀ n c, f ⟨n, c⟩ = (nameOk n && (decide (1 ≤ c) && decide (c ≤ 1048576)))) := Lib.hid (fun n c => by rw [hff]; rfl)
  rw [← hR]
  clear hR hff hs hf
  go_enter Tryz.func73, Tryz.ntmps73
  go_wp2_with fail
  go_loopw [3] (fun i wr => ∃ k : Nat, k ≤ l.length ∧ i = .int .i64 k ∧ l.all f = (l.drop k).all f ∧ Below w.heap.size w wr) (fun i _ => l.length - (intOf i).toNat)
  case atStart => exact ⟨0, Nat.zero_le _, rfl, rfl, Below.refl _ _⟩
  case round =>
    obtain ⟨k, hk, rfl, hrel, hbel⟩ := hrel
    have HBEL := Lib.hid hbel
    by_cases hlt : k < l.length
    · obtain ⟨b, off, rfl, -, hb, hc⟩ := HS.out.at (i := k) (by simpa using hlt)
      have HB0 := Lib.hid hb
      have q1 := hc k l[k].row (by simp [hlt]) 1 _ rfl
      have d0 := (hbel.cell (p := ⟨b, off + k * 2, none⟩) hb).trans (hc k l[k].row (by simp [hlt]) 0 _ rfl)
      have hfit := (HFT.out l[k] (List.getElem_mem hlt)).good
      rw [all_next hlt] at hrel
      generalize l[k] = x at *
      obtain ⟨xn, xc⟩ := x
      simp only at d0 q1
      have HQ1 := Lib.hid q1
      rw [HF.out] at hrel
      have NM := Lib.hid (fun W => refName25_any xn W hfit)
      clear hc hbel q1 hfit
      generalize nameOk xn = B at *
      have HREL := Lib.hid hrel
      clear hrel
      cases B
      · have HQ : Hid (R = false) := Lib.hid (by rw [HR0.out, HREL.out]; rfl)
        go_wp2_with (first
          | ((with_reducible refine (NM.out _).mono ?_); rintro e w2 ⟨rfl, hb2⟩; have HB2 := Lib.hid (HBEL.out.trans (hb2.mono HBEL.out.size)); clear hb2)
          | fail)
        go_ret
        exact retB HQ.out.symm HB2.out
      by_cases h1 : xc < 1
      · have t1 : decide (xc < 1) = true := decide_eq_true h1
        have HQ : Hid (R = false) := Lib.hid (by rw [HR0.out, HREL.out, decide_eq_false (show ¬ 1 ≤ xc by omega)]; rfl)
        clear h1
        go_wp2_with (first
          | ((with_reducible refine (NM.out _).mono ?_); rintro e w2 ⟨rfl, hb2⟩; have HB2 := Lib.hid (HBEL.out.trans (hb2.mono HBEL.out.size)); have e1 := (HB2.out.cell (p := ⟨b, off + k * 2 + 1, none⟩) HB0.out).trans HQ1.out; clear hb2)
          | fail)
        go_ret
        exact retB HQ.out.symm HB2.out
      have t1 : decide (xc < 1) = false := decide_eq_false h1
      by_cases h2 : 1048576 < xc
      · have t2 : decide (1048576 < xc) = true := decide_eq_true h2
        have HQ : Hid (R = false) := Lib.hid (by rw [HR0.out, HREL.out, decide_eq_false (show ¬ xc ≤ 1048576 by omega)]; simp)
        clear h1 h2
        go_wp2_with (first
          | ((with_reducible refine (NM.out _).mono ?_); rintro e w2 ⟨rfl, hb2⟩; have HB2 := Lib.hid (HBEL.out.trans (hb2.mono HBEL.out.size)); have e1 := (HB2.out.cell (p := ⟨b, off + k * 2 + 1, none⟩) HB0.out).trans HQ1.out; clear hb2)
          | fail)
        go_ret
        exact retB HQ.out.symm HB2.out
      have t2 : decide (1048576 < xc) = false := decide_eq_false h2
      have HQ : Hid (l.all f = (l.drop (k + 1)).all f) := Lib.hid (by rw [HREL.out, decide_eq_true (show 1 ≤ xc by omega), decide_eq_true (show xc ≤ 1048576 by omega)]; rfl)
      clear h1 h2
      go_wp2_with (first
        | ((with_reducible refine (NM.out _).mono ?_); rintro e w2 ⟨rfl, hb2⟩; have HB2 := Lib.hid (HBEL.out.trans (hb2.mono HBEL.out.size)); have e1 := (HB2.out.cell (p := ⟨b, off + k * 2 + 1, none⟩) HB0.out).trans HQ1.out; clear hb2)
        | fail)
      go_roundw
      case rel => exact ⟨k + 1, by omega, by go_num, HQ.out, HB2.out⟩
      case measure => (simp [intOf]) <;> omega
    · have HQ : Hid (R = decide (0 < l.length)) := Lib.hid (by rw [HR0.out, hrel, List.drop_of_length_le (by omega)]; rfl)
      clear hrel hbel
      go_wp2_with fail
      go_ret
      exact retB (by rw [HQ.out]) HBEL.out
set_option maxHeartbeats 4000000 in
theorem refIn_any (l : List ByteArray) (s : ByteArray) (v : Value) (w : World) (hs : Sl w 1 v (l.map stRow)) : Calls Tryz.prog 74 #[v, .string s] w (RetB w (memB s l)) := by
  have hll : l.length ≤ 9223372036854775807 := by have := hs.len_le; simp only [List.length_map, maxLen] at this; omega
  obtain ⟨a, c, rfl⟩ : ∃ a c, v = .slice a l.length c := by simpa using hs.shape
  have HS := Lib.hid hs
  obtain ⟨f, hff⟩ : ∃ f : ByteArray → Bool, f = fun x => decide (x = s) := ⟨_, rfl⟩
  obtain ⟨R, hR⟩ : ∃ R, R = memB s l := ⟨_, rfl⟩
  have HR0 : Hid (R = l.any f) := Lib.hid (by rw [hR, hff, memB])
  have HF : Hid (∀ n, f n = decide (n = s)) := Lib.hid (fun n => by rw [hff])
  rw [← hR]
  clear hR hff hs
  go_enter Tryz.func74, Tryz.ntmps74
  go_wp2_with fail
  go_loopw [5] (fun i wr => ∃ k : Nat, k ≤ l.length ∧ i = .int .i64 k ∧ l.any f = (l.drop k).any f ∧ Below w.heap.size w wr) (fun i _ => l.length - (intOf i).toNat)
  case atStart => exact ⟨0, Nat.zero_le _, rfl, rfl, Below.refl _ _⟩
  case round =>
    obtain ⟨k, hk, rfl, hrel, hbel⟩ := hrel
    have HBEL := Lib.hid hbel
    by_cases hlt : k < l.length
    · obtain ⟨b, off, rfl, -, hb, hc⟩ := HS.out.at (i := k) (by simpa using hlt)
      have d0 := (hbel.cell (p := ⟨b, off + k * 1, none⟩) hb).trans (hc k (stRow l[k]) (by simp [hlt]) 0 _ rfl)
      rw [Nat.mul_one] at d0
      rw [any_next hlt] at hrel
      generalize l[k] = x at *
      rw [HF.out] at hrel
      have HREL := Lib.hid hrel
      clear hc hbel hrel
      by_cases hx : x = s
      · have t1 := str_yes hx
        have HQ : Hid (R = true) := Lib.hid (by rw [HR0.out, HREL.out, decide_eq_true hx]; rfl)
        clear hx
        go_wp2_with fail
        go_ret
        exact retB HQ.out.symm HBEL.out
      · have t1 := str_no hx
        have HQ : Hid (l.any f = (l.drop (k + 1)).any f) := Lib.hid (by rw [HREL.out, decide_eq_false hx]; rfl)
        clear hx
        go_wp2_with fail
        go_roundw
        case rel => exact ⟨k + 1, by omega, by go_num, HQ.out, HBEL.out⟩
        case measure => (simp [intOf]) <;> omega
    · have HQ : Hid (R = false) := Lib.hid (by rw [HR0.out, hrel, List.drop_of_length_le (by omega)]; rfl)
      clear hrel hbel
      go_wp2_with fail
      go_ret
      exact retB HQ.out.symm HBEL.out
end Go.Proofs.YticnmmfiadpbbaaGreat.Sc
