/- Is a text a right mark: by the document. -/
import Derived.Test.YtgnfdplphpejaaaGreatDoorMkB12
import Derived.Test.YtgnfdplphpejaaaGreatDoorGood11
import Derived.Laws.IdiomStrings
import Derived.Test.YtgnfdplphpejaaaGreatDoorAny
import Derived.Test.YtgnfdplphpejaaaGreatDoorGuard
namespace Go.Proofs.YtgnfdplphpejaaaGreatDoor.Sc
open Go Go.RowKit Go.ChangeShapes Go.WideShapes Go.ChangeAt
set_option maxRecDepth 100000

set_option maxHeartbeats 4000000 in
theorem refHead_any (s : ByteArray) (w : World) (hm : s.size ≤ 9223372036854775807) : Calls Tryz.prog 72 #[.string s] w (RetB w (headB (bt s))) := by
  by_cases h10 : s.size < 10
  · have t1 : decide ((s.size : Int) < 10) = true := decide_eq_true (by omega)
    have HQ : Hid (headB (bt s) = false) := Lib.hid (by rw [headB, bt_len, decide_eq_false (by omega)]; rfl)
    clear h10
    go_enter Tryz.func72, Tryz.ntmps72
    go_wp2_with fail
    go_ret
    exact retB HQ.out.symm (Below.refl _ _)
  have t1 : decide ((s.size : Int) < 10) = false := decide_eq_false (by omega)
  have HSZ := Lib.hid (show 10 ≤ s.size by omega)
  have HV : Hid (headB (bt s) = headN (bt s) 10) := Lib.hid (by rw [headB, bt_len, decide_eq_true (by omega), Bool.true_and])
  clear h10
  go_enter Tryz.func72, Tryz.ntmps72
  go_wp2_with fail
  clear t1
  go_loopw [3] (fun i wr => ∃ k : Nat, k ≤ 10 ∧ i = .int .i64 k ∧ headN (bt s) k = true ∧ Below w.heap.size w wr) (fun i _ => 10 - (intOf i).toNat)
  case atStart => exact ⟨0, by omega, rfl, rfl, Below.refl _ _⟩
  case round =>
    obtain ⟨k, hk, rfl, hhd, hbel⟩ := hrel
    have HBEL := Lib.hid hbel
    have HHD := Lib.hid hhd
    clear hbel hhd
    by_cases hlt : k < 10
    · have hks : k < s.size := by have := HSZ.out; omega
      have HC := Lib.hid (chAt_is s k hks)
      have HNX : Hid (headN (bt s) (k + 1) = signOk k (chAt (bt s) k)) := Lib.hid (by rw [headN, HHD.out, Bool.true_and])
      have HBAD : Hid (signOk k (chAt (bt s) k) = false → headB (bt s) = false) := Lib.hid (fun h => by rw [HV.out, headN_false hlt h])
      have HL := letter3_any ((s[k]'hks).toNat : Int)
      have HD := digit3_any ((s[k]'hks).toNat : Int)
      rw [HC.out] at HNX HBAD
      generalize hcv : ((s[k]'hks).toNat : Int) = c at *
      by_cases h4 : k < 4
      · have t4 : decide ((k : Int) < 4) = true := decide_eq_true (by omega)
        have t4' : decide ((4 : Int) ≤ (k : Int)) = false := decide_eq_false (by omega)
        have e1 : signOk k c = letter c := if_pos h4
        rw [e1] at HNX HBAD
        generalize letter c = bl at *
        cases bl
        · have HQ := Lib.hid (HBAD.out rfl)
          clear HBAD HNX
          go_wp2_with (first
            | ((with_reducible refine (HL _).mono ?_); rintro e w2 ⟨rfl, hb2⟩; have HB2 := Lib.hid (HBEL.out.trans (hb2.mono HBEL.out.size)); clear hb2)
            | fail)
          go_ret
          exact retB HQ.out.symm HB2.out
        · have HN := Lib.hid HNX.out
          clear HBAD HNX
          go_wp2_with (first
            | ((with_reducible refine (HL _).mono ?_); rintro e w2 ⟨rfl, hb2⟩; have HB2 := Lib.hid (HBEL.out.trans (hb2.mono HBEL.out.size)); clear hb2)
            | fail)
          go_roundw
          case rel => exact ⟨k + 1, by omega, by go_num, HN.out, HB2.out⟩
          case measure => (simp [intOf]) <;> omega
      · have t4 : decide ((k : Int) < 4) = false := decide_eq_false (by omega)
        have t4' : decide ((4 : Int) ≤ (k : Int)) = true := decide_eq_true (by omega)
        have e1 : signOk k c = digit c := if_neg h4
        rw [e1] at HNX HBAD
        generalize digit c = bl at *
        cases bl
        · have HQ := Lib.hid (HBAD.out rfl)
          clear HBAD HNX
          go_wp2_with (first
            | ((with_reducible refine (HD _).mono ?_); rintro e w2 ⟨rfl, hb2⟩; have HB2 := Lib.hid (HBEL.out.trans (hb2.mono HBEL.out.size)); clear hb2)
            | fail)
          go_ret
          exact retB HQ.out.symm HB2.out
        · have HN := Lib.hid HNX.out
          clear HBAD HNX
          go_wp2_with (first
            | ((with_reducible refine (HD _).mono ?_); rintro e w2 ⟨rfl, hb2⟩; have HB2 := Lib.hid (HBEL.out.trans (hb2.mono HBEL.out.size)); clear hb2)
            | fail)
          go_roundw
          case rel => exact ⟨k + 1, by omega, by go_num, HN.out, HB2.out⟩
          case measure => (simp [intOf]) <;> omega
    · have hk10 : k = 10 := by omega
      subst hk10
      have HQ : Hid (headB (bt s) = true) := Lib.hid (by rw [HV.out, HHD.out])
      clear hlt hk
      go_wp2_with fail
      go_ret
      exact retB HQ.out.symm HBEL.out
set_option maxHeartbeats 4000000 in
theorem refSum3_any (s : ByteArray) (w : World) (hm : s.size ≤ 9223372036854775807) : Calls Tryz.prog 71 #[.string s] w (Ret w (.int .i64 (sumM (bt s)))) := by
  have HH := Lib.hid (refHead_any s w hm)
  have HV : Hid (sumM (bt s) = if headB (bt s) = true then sumN (bt s) 10 % 97 else -1) := Lib.hid rfl
  have HHB : Hid (headB (bt s) = true → 10 ≤ s.size ∧ ∀ k, k ≤ 10 → headN (bt s) k = true) := Lib.hid (fun h => by
    rw [headB, Bool.and_eq_true, decide_eq_true_eq, bt_len] at h
    exact ⟨h.1, fun k hk => (headN_iff k).2 fun i hi => (headN_iff 10).1 h.2 i (by omega)⟩)
  generalize headB (bt s) = r at *
  cases r
  · go_enter Tryz.func71, Tryz.ntmps71
    go_wp2_with (first
      | ((with_reducible refine HH.out.mono ?_); rintro e w2 ⟨rfl, hb2⟩; have HB2 := Lib.hid hb2; clear hb2)
      | fail)
    go_ret
    exact ⟨by rw [HV.out]; rfl, HB2.out⟩
  have HOK := Lib.hid (HHB.out rfl)
  go_enter Tryz.func71, Tryz.ntmps71
  go_wp2_with (first
    | ((with_reducible refine HH.out.mono ?_); rintro e w2 ⟨rfl, hb2⟩; have HB2 := Lib.hid hb2; clear hb2)
    | fail)
  go_loopw [3, 4, 5] (fun sm i _ wr => ∃ k : Nat, k ≤ 10 ∧ i = .int .i64 k ∧ sm = .int .i64 (sumN (bt s) k) ∧ Below w.heap.size w wr) (fun _ i _ _ => 10 - (intOf i).toNat)
  case atStart => exact ⟨0, by omega, rfl, rfl, HB2.out⟩
  case round =>
    obtain ⟨k, hk, rfl, rfl, hbel⟩ := hrel
    have HBEL := Lib.hid hbel
    have HRG := Lib.hid (sumN_range hk (HOK.out.2 k hk))
    clear hbel
    by_cases hlt : k < 10
    · have hks : k < s.size := by have := HOK.out.1; omega
      have HC := Lib.hid (chAt_is s k hks)
      have hsg := (headN_iff 10).1 (HOK.out.2 10 (by omega)) k hlt
      have HNX : Hid (sumN (bt s) (k + 1) = sumN (bt s) k + signV k (chAt (bt s) k) * ((k : Int) + 1)) := Lib.hid rfl
      rw [HC.out] at HNX hsg
      have HSG := Lib.hid (signV_range hsg)
      have HS9 : Hid (0 ≤ sumN (bt s) k ∧ sumN (bt s) k ≤ 2600) := Lib.hid (by have := HRG.out; omega)
      have hc0 : (0 : Int) ≤ (s[k]'hks).toNat ∧ ((s[k]'hks).toNat : Int) ≤ 255 := by have := UInt8.toNat_lt (s[k]'hks); omega
      generalize sumN (bt s) k = S at *
      generalize hcv : ((s[k]'hks).toNat : Int) = c at *
      clear hsg
      by_cases h4 : k < 4
      · have t4 : decide ((k : Int) < 4) = true := decide_eq_true (by omega)
        have e2 : signV k c = c - 96 := if_pos h4
        rw [e2] at HNX HSG
        clear e2
        go_wp2_with fail
        go_roundw
        case rel =>
          have q5 := HSG.out
          have q0 : 0 ≤ (c - 96) * ((k : Int) + 1) := Int.mul_nonneg (by omega) (by omega)
          have q1 : (c - 96) * ((k : Int) + 1) ≤ 26 * 10 := Int.le_trans (Int.mul_le_mul_of_nonneg_right (by omega) (by omega)) (Int.mul_le_mul_of_nonneg_left (by omega) (by omega))
          have q2 : wrap64 ((c - 96) * ((k : Int) + 1)) = (c - 96) * ((k : Int) + 1) := IntWalk.wrap64_in _ (by omega)
          have q3 := HS9.out
          exact ⟨k + 1, by omega, by go_num, congrArg (Value.int .i64) (by rw [q2, HNX.out]; exact IntWalk.wrap64_in _ (by omega)), HBEL.out⟩
        case measure => (simp [intOf]) <;> omega
      · have t4 : decide ((k : Int) < 4) = false := decide_eq_false (by omega)
        have e2 : signV k c = c - 48 := if_neg h4
        rw [e2] at HNX HSG
        clear e2
        go_wp2_with fail
        go_roundw
        case rel =>
          have q5 := HSG.out
          have q0 : 0 ≤ (c - 48) * ((k : Int) + 1) := Int.mul_nonneg (by omega) (by omega)
          have q1 : (c - 48) * ((k : Int) + 1) ≤ 26 * 10 := Int.le_trans (Int.mul_le_mul_of_nonneg_right (by omega) (by omega)) (Int.mul_le_mul_of_nonneg_left (by omega) (by omega))
          have q2 : wrap64 ((c - 48) * ((k : Int) + 1)) = (c - 48) * ((k : Int) + 1) := IntWalk.wrap64_in _ (by omega)
          have q3 := HS9.out
          exact ⟨k + 1, by omega, by go_num, congrArg (Value.int .i64) (by rw [q2, HNX.out]; exact IntWalk.wrap64_in _ (by omega)), HBEL.out⟩
        case measure => (simp [intOf]) <;> omega
    · have hk10 : k = 10 := by omega
      subst hk10
      have HQ : Hid (sumM (bt s) = sumN (bt s) 10 % 97) := Lib.hid (by rw [HV.out]; rfl)
      have HRR := Lib.hid HRG.out
      generalize sumN (bt s) 10 = S at *
      have e1 : Int.tmod S 97 = S % 97 := Int.tmod_eq_emod_of_nonneg HRR.out.1
      clear hlt hk
      go_wp2_with fail
      go_ret
      exact ⟨by rw [HQ.out]; rfl, HBEL.out⟩
theorem letters_step {s : ByteArray} {k : Nat} (h : k < s.size) : ((bt s).drop k).all (fun c => letter (c.toNat : Int)) = (letter ((s[k]'h).toNat : Int) && ((bt s).drop (k + 1)).all fun c => letter (c.toNat : Int)) := by
  have hk : k < (bt s).length := by rw [bt_len]; exact h
  rw [List.drop_eq_getElem_cons hk, List.all_cons]
  have : (bt s)[k] = s[k]'h := by simp [bt, ByteArray.getElem_eq_getElem_data]
  rw [this]
theorem letters_end {s : ByteArray} {k : Nat} (h : s.size ≤ k) : ((bt s).drop k).all (fun c => letter (c.toNat : Int)) = true := by
  rw [List.drop_eq_nil_of_le (by rw [bt_len]; exact h)]; rfl
set_option maxHeartbeats 4000000 in
theorem owner_any (s : ByteArray) (w : World) : Calls Tryz.prog 33 #[.string s] w (RetB w (ownerOk (bt s))) := by
  by_cases h4 : s.size = 4
  rotate_left
  · have t1 : ((s.size : Int) == 4) = false := by simp; omega
    have t2 : ((s.size : Int) != 4) = true := by simp; omega
    have HQ : Hid (ownerOk (bt s) = false) := Lib.hid (by rw [ownerOk, bt_len, decide_eq_false h4]; rfl)
    clear h4
    go_enter Tryz.func33, Tryz.ntmps33
    go_wp2_with fail
    go_ret
    exact retB HQ.out.symm (Below.refl _ _)
  have t2 : ((s.size : Int) != 4) = false := by simp; omega
  have HV : Hid (ownerOk (bt s) = ((bt s).drop 0).all fun c => letter (c.toNat : Int)) := Lib.hid (by rw [ownerOk, bt_len, decide_eq_true h4]; rfl)
  have HSZ := Lib.hid h4
  clear h4
  go_enter Tryz.func33, Tryz.ntmps33
  go_wp2_with fail
  clear t2
  go_loopw [3] (fun i wr => ∃ k : Nat, k ≤ 4 ∧ i = .int .i64 k ∧ ownerOk (bt s) = (((bt s).drop k).all fun c => letter (c.toNat : Int)) ∧ Below w.heap.size w wr) (fun i _ => 4 - (intOf i).toNat)
  case atStart => exact ⟨0, by omega, rfl, HV.out, Below.refl _ _⟩
  case round =>
    obtain ⟨k, hk, rfl, hq, hbel⟩ := hrel
    have HBEL := Lib.hid hbel
    clear hbel
    by_cases hlt : k < 4
    · have hks : k < s.size := by have := HSZ.out; omega
      rw [letters_step hks] at hq
      have HR := Lib.hid hq
      clear hq
      by_cases h1 : ((s[k]'hks).toNat : Int) < 97
      · have t1 : decide (((s[k]'hks).toNat : Int) < 97) = true := decide_eq_true h1
        have HQ : Hid (ownerOk (bt s) = false) := Lib.hid (by rw [HR.out, letter, decide_eq_false (by omega)]; rfl)
        clear h1
        go_wp2_with fail
        go_ret
        exact retB HQ.out.symm HBEL.out
      · have t1 : decide (((s[k]'hks).toNat : Int) < 97) = false := decide_eq_false h1
        by_cases h2 : 122 < ((s[k]'hks).toNat : Int)
        · have t2 : decide (122 < ((s[k]'hks).toNat : Int)) = true := decide_eq_true h2
          have HQ : Hid (ownerOk (bt s) = false) := Lib.hid (by rw [HR.out, letter, decide_eq_false (show ¬ ((s[k]'hks).toNat : Int) ≤ 122 by omega), Bool.and_false]; rfl)
          clear h1 h2
          go_wp2_with fail
          go_ret
          exact retB HQ.out.symm HBEL.out
        · have t2 : decide (122 < ((s[k]'hks).toNat : Int)) = false := decide_eq_false h2
          have HN : Hid (ownerOk (bt s) = (((bt s).drop (k + 1)).all fun c => letter (c.toNat : Int))) := Lib.hid (by rw [HR.out, letter, decide_eq_true (show 97 ≤ ((s[k]'hks).toNat : Int) by omega), decide_eq_true (show ((s[k]'hks).toNat : Int) ≤ 122 by omega)]; rfl)
          clear h1 h2
          go_wp2_with fail
          go_roundw
          case rel => exact ⟨k + 1, by omega, by go_num, HN.out, HBEL.out⟩
          case measure => (simp [intOf]) <;> omega
    · have HQ : Hid (ownerOk (bt s) = true) := Lib.hid (by rw [hq, letters_end (by have := HSZ.out; omega)])
      clear hq
      go_wp2_with fail
      go_ret
      exact retB HQ.out.symm HBEL.out
end Go.Proofs.YtgnfdplphpejaaaGreatDoor.Sc
namespace Go.Proofs.YtgnfdplphpejaaaGreatDoor.Sc
open Go Go.RowKit Go.ChangeShapes Go.WideShapes Go.ChangeAt
set_option maxRecDepth 100000

theorem dg_int (n : Nat) : ((dg n).toNat : Int) = 48 + (n : Int) % 10 := by
  have := dg_toNat n
  omega
theorem conv_one (x : Int) (d : UInt8) (hx : (d.toNat : Int) = x) (w : World) : (convert 74 9 (.slice (some ⟨w.heap.size, 0, none⟩) 1 1)).run Tryz.prog (w.alloc (.cells #[.int .u8 x] 5)) = .ok (.string (txt [d])) (w.alloc (.cells #[.int .u8 x] 5)) := by
  refine run_convert_bytes_back _ 74 9 5 ⟨w.heap.size, 0, none⟩ 1 [d] Tryz.underlying74 Tryz.underlying5 Tryz.underlying9 fun j hj => ?_
  obtain rfl : j = 0 := by simp at hj; omega
  have := cell_blk (heap_alloc_new w (.cells #[.int .u8 x] 5)) 0
  simp only [List.getElem_cons_zero, hx]
  exact this
theorem conv_two (x y : Int) (d e : UInt8) (hx : (d.toNat : Int) = x) (hy : (e.toNat : Int) = y) (w : World) : (convert 74 9 (.slice (some ⟨w.heap.size, 0, none⟩) 2 2)).run Tryz.prog (w.alloc (.cells #[.int .u8 x, .int .u8 y] 5)) = .ok (.string (txt [d, e])) (w.alloc (.cells #[.int .u8 x, .int .u8 y] 5)) := by
  refine run_convert_bytes_back _ 74 9 5 ⟨w.heap.size, 0, none⟩ 2 [d, e] Tryz.underlying74 Tryz.underlying5 Tryz.underlying9 fun j hj => ?_
  have h0 := cell_blk (heap_alloc_new w (.cells #[.int .u8 x, .int .u8 y] 5)) 0
  have h1 := cell_blk (heap_alloc_new w (.cells #[.int .u8 x, .int .u8 y] 5)) 1
  match j, hj with
  | 0, _ => simp only [List.getElem_cons_zero, hx]; exact h0
  | 1, _ => simp only [List.getElem_cons_succ, List.getElem_cons_zero, hy]; exact h1
theorem digK_step (k m : Nat) (t : List UInt8) : digK (k + 1) m ++ t = digK k (m / 10) ++ (dg m :: t) := by rw [digK, List.append_assoc]; rfl
theorem digK_two {c : Nat} (h : c < 97) : digK 2 c = [dg (c / 10), dg c] ∧ ((dg (c / 10)).toNat : Int) = 48 + (c : Int) / 10 := by
  refine ⟨rfl, ?_⟩
  have := dg_toNat (c / 10)
  omega
set_option maxHeartbeats 8000000 in
theorem refMake_any (own : ByteArray) (n : Nat) (hn : n ≤ 999999) (ho : ownerOk (bt own) = true) (w : World) : Calls Tryz.prog 39 #[.string own, .int .i64 n] w (Ret w (.string (txt (markB (bt own) n)))) := by
  obtain ⟨hhd, hl10⟩ := head_made (n := n) ho
  have hsm : 0 ≤ sumM (bt own ++ digK 6 n) ∧ sumM (bt own ++ digK 6 n) < 97 := by rw [sumM, if_pos hhd]; omega
  obtain ⟨c, hc⟩ : ∃ c : Nat, sumM (bt own ++ digK 6 n) = (c : Int) := ⟨(sumM (bt own ++ digK 6 n)).toNat, by omega⟩
  have ho4 : own.size = 4 := by
    simp only [ownerOk, Bool.and_eq_true, decide_eq_true_eq, bt_len] at ho
    exact ho.1
  have HM : Hid (markB (bt own) n = bt own ++ digK 6 n ++ digK 2 c) := Lib.hid (by rw [markB, hc]; rfl)
  have HSM := Lib.hid (fun W (T : ByteArray) (hT : T = txt (bt own ++ digK 6 n)) => (by
    have := refSum3_any T W (by rw [hT, txt_size]; omega)
    rwa [hT, bt_txt, hc, ← hT] at this : Calls Tryz.prog 71 #[.string T] W (Ret W (.int .i64 c))))
  have HC := Lib.hid (show c < 97 by omega)
  have HO4 := Lib.hid ho4
  have HD : Hid (digK 6 n = digK 6 n) := Lib.hid rfl
  clear hhd hl10 hsm hc ho ho4
  go_enter Tryz.func39, Tryz.ntmps39
  go_wp2_with fail
  go_loopw [1, 5, 6] (fun m s i wr => ∃ (k mN : Nat) (t : List UInt8), k ≤ 6 ∧ i = .int .i64 k ∧ m = .int .i64 mN ∧ mN ≤ 999999 ∧ s = .string (txt t) ∧ t.length = k ∧ digK 6 n = digK (6 - k) mN ++ t ∧ Below w.heap.size w wr) (fun _ _ i _ => 6 - (intOf i).toNat)
  case atStart => exact ⟨0, n, [], by omega, rfl, rfl, hn, rfl, rfl, by simp, Below.refl _ _⟩
  case round =>
    obtain ⟨k, m, t, hk, rfl, rfl, hm, rfl, htl, hd, hbel⟩ := hrel
    have HBEL := Lib.hid hbel
    have HDD := Lib.hid hd
    have HTL := Lib.hid htl
    clear hbel hd htl
    by_cases hlt : k < 6
    · obtain ⟨q, hq⟩ : ∃ q, q = m / 10 := ⟨_, rfl⟩
      have e1 : Int.tdiv (m : Int) 10 = (q : Int) := by rw [hq]; rfl
      have e2 : Int.tmod (m : Int) 10 = (m : Int) % 10 := Int.tmod_eq_emod_of_nonneg (by omega)
      have HQ := Lib.hid hq
      have HCV := Lib.hid (fun W => conv_one (48 + (m : Int) % 10) (dg m) (dg_int m) W)
      have hs1 : ¬ 9223372036854775807 < (txt [dg m]).size + (txt t).size := by
        rw [txt_size, txt_size]
        have := HTL.out
        simp only [List.length_cons, List.length_nil]
        omega
      clear hq
      go_wp2_with fail
      rw [HCV.out]
      simp only [Result.andThen]
      rw [Oper.upon_value]
      go_wp2_with fail
      go_roundw
      case rel =>
        refine ⟨k + 1, q, dg m :: t, by omega, by go_num, congrArg (Value.int .i64) (IntWalk.wrap64_in _ (by have := HQ.out; omega)), by have := HQ.out; omega, congrArg Value.string (txt_append [dg m] t), by simp [HTL.out], ?_, HBEL.out.trans ((one_below _ _).mono HBEL.out.size)⟩
        rw [HDD.out, show 6 - k = (6 - (k + 1)) + 1 by omega, digK_step, ← HQ.out]
      case measure => (simp [intOf]) <;> omega
    · have hk6 : k = 6 := by omega
      subst hk6
      have HT6 : Hid (t = digK 6 n) := Lib.hid (by rw [HDD.out]; rfl)
      have HTX : Hid (own ++ txt t = txt (bt own ++ digK 6 n)) := Lib.hid (by rw [HT6.out, ← txt_append, txt_bt])
      have HSX := Lib.hid (fun W => HSM.out W _ HTX.out)
      have hs1 : ¬ 9223372036854775807 < own.size + (txt t).size := by rw [txt_size, HTL.out, HO4.out]; omega
      have hs2 : ¬ 9223372036854775807 < (own ++ txt t).size + (txt [dg (c / 10), dg c]).size := by rw [HTX.out, txt_size, txt_size, List.length_append, bt_len, digK_len, HO4.out]; simp
      have hs3 : ¬ 9223372036854775807 < own.size + (txt t).size + (txt [dg (c / 10), dg c]).size := by rw [txt_size, txt_size, HTL.out, HO4.out]; simp
      have hc97 := HC.out
      have e1 : Int.tdiv (c : Int) 10 = (c : Int) / 10 := Int.tdiv_eq_ediv_of_nonneg (by omega)
      have e2 : Int.tmod (c : Int) 10 = (c : Int) % 10 := Int.tmod_eq_emod_of_nonneg (by omega)
      have HCV := Lib.hid (fun W => conv_two (48 + (c : Int) / 10) (48 + (c : Int) % 10) (dg (c / 10)) (dg c) (digK_two hc97).2 (dg_int c) W)
      have HR : Hid (txt (markB (bt own) n) = own ++ txt t ++ txt [dg (c / 10), dg c]) := Lib.hid (by rw [HM.out, HTX.out, (digK_two hc97).1, txt_append])
      clear hm hk hlt
      go_wp2_with (first
        | ((with_reducible refine (HSX.out _).mono ?_); rintro e w4 ⟨rfl, hb4⟩; have HB4 := Lib.hid (HBEL.out.trans (hb4.mono HBEL.out.size)); clear hb4)
        | fail)
      rw [HCV.out]
      simp only [Result.andThen]
      rw [Oper.upon_value]
      go_wp2_with fail
      go_ret
      exact ⟨by rw [HR.out]; rfl, HB4.out.trans ((one_below _ _).mono HB4.out.size)⟩
end Go.Proofs.YtgnfdplphpejaaaGreatDoor.Sc
namespace Go.Proofs.YtgnfdplphpejaaaGreatDoor.Sc
open Go Go.RowKit Go.ChangeShapes Go.WideShapes Go.ChangeAt
set_option maxRecDepth 100000

theorem mark_two {s : List UInt8} (hl : s.length = 12) (hh : headB s = true) : decide (s.drop 10 = digK 2 (sumM s).toNat) = (digit (chAt s 10) && (digit (chAt s 11) && decide (sumM s = 10 * (chAt s 10 - 48) + chAt s 11 - 48))) := by
  have hsm : 0 ≤ sumM s ∧ sumM s < 97 := by rw [sumM, if_pos hh]; omega
  obtain ⟨m, hm⟩ : ∃ m : Nat, sumM s = (m : Int) := ⟨(sumM s).toNat, by omega⟩
  obtain ⟨a, ha⟩ : ∃ a, s[10]? = some a := ⟨_, List.getElem?_eq_getElem (by omega)⟩
  obtain ⟨b, hb⟩ : ∃ b, s[11]? = some b := ⟨_, List.getElem?_eq_getElem (by omega)⟩
  have hd : s.drop 10 = [a, b] := by
    apply List.ext_getElem?
    intro i
    rw [List.getElem?_drop]
    match i with
    | 0 => exact ha
    | 1 => exact hb
    | i + 2 => rw [List.getElem?_eq_none (by omega)]; rfl
  have ca : chAt s 10 = (a.toNat : Int) := by rw [chAt, ha]; rfl
  have cb : chAt s 11 = (b.toNat : Int) := by rw [chAt, hb]; rfl
  rw [hd, hm, Int.toNat_natCast, (digK_two (show m < 97 by omega)).1, ca, cb, Bool.eq_iff_iff]
  simp only [digit, Bool.and_eq_true, decide_eq_true_eq, List.cons.injEq, and_true]
  have h1 := dg_toNat (m / 10)
  have h2 := dg_toNat m
  constructor
  · rintro ⟨rfl, rfl⟩
    omega
  · rintro ⟨h3, h4, h5⟩
    refine ⟨UInt8.toNat_inj.1 (by omega), UInt8.toNat_inj.1 (by omega)⟩
set_option maxHeartbeats 8000000 in
theorem refRight_any (s : ByteArray) (hm : s.size ≤ 9223372036854775807) (w : World) : Calls Tryz.prog 40 #[.string s] w (RetB w (markOk (bt s))) := by
  have HHD := Lib.hid (fun W => refHead_any s W hm)
  by_cases h12 : s.size = 12
  rotate_left
  · have t1 : decide (s.size = 12) = false := decide_eq_false h12
    have t2 : ((s.size : Int) == 12) = false := by simp; omega
    have HQ : Hid (markOk (bt s) = false) := Lib.hid (by rw [markOk, bt_len, t1]; rfl)
    clear h12
    go_enter Tryz.func40, Tryz.ntmps40
    go_wp2_with fail
    refine Any.region_lit (fun
      | 0 => Any.val (.string s)
      | 1 => Any.val (.int .i64 s.size)
      | 2 => Any.val (.bool false)
      | 3 => Any.val (.bool false)
      | 4 => Any.idle
      | 5 => Any.idle
      | 6 => Any.val (.bool false)
      | 7 => Any.val (.bool false)
      | 8 => Any.idle
      | 9 => Any.idle
      | 10 => Any.idle
      | 11 => Any.val (.bool false)
      | 12 => Any.val (.bool false)
      | 13 => Any.idle
      | 14 => Any.idle
      | 15 => Any.idle
      | 16 => Any.val (.bool false)
      | 17 => Any.val (.bool false)
      | 18 => Any.idle
      | 19 => Any.idle
      | 20 => Any.idle
      | 21 => Any.idle
      | 22 => Any.idle
      | 23 => Any.idle
      | 24 => Any.idle
      | 25 => Any.idle
      | 26 => Any.idle
      | 27 => Any.idle
      | 28 => Any.idle
      | 29 => Any.idle
      | 30 => Any.idle
      | 31 => Any.val (.bool false)
      | 32 => Any.val (.bool false)
      | _ => Any.idle) (by kernel_rfl) (by kernel_rfl) (by kernel_rfl) ?_ ?_ ?_
    · intro i _
      match i with
      | 0 => exact Any.lasts_val _
      | 1 => exact Any.lasts_val _
      | 2 => exact Any.lasts_val _
      | 3 => exact Any.lasts_val _
      | 4 => exact Any.lasts_idle
      | 5 => exact Any.lasts_idle
      | 6 => exact Any.lasts_val _
      | 7 => exact Any.lasts_val _
      | 8 => exact Any.lasts_idle
      | 9 => exact Any.lasts_idle
      | 10 => exact Any.lasts_idle
      | 11 => exact Any.lasts_val _
      | 12 => exact Any.lasts_val _
      | 13 => exact Any.lasts_idle
      | 14 => exact Any.lasts_idle
      | 15 => exact Any.lasts_idle
      | 16 => exact Any.lasts_val _
      | 17 => exact Any.lasts_val _
      | 18 => exact Any.lasts_idle
      | 19 => exact Any.lasts_idle
      | 20 => exact Any.lasts_idle
      | 21 => exact Any.lasts_idle
      | 22 => exact Any.lasts_idle
      | 23 => exact Any.lasts_idle
      | 24 => exact Any.lasts_idle
      | 25 => exact Any.lasts_idle
      | 26 => exact Any.lasts_idle
      | 27 => exact Any.lasts_idle
      | 28 => exact Any.lasts_idle
      | 29 => exact Any.lasts_idle
      | 30 => exact Any.lasts_idle
      | 31 => exact Any.lasts_val _
      | 32 => exact Any.lasts_val _
      | n + 33 => exact Any.lasts_idle
    · refine ⟨?_, ?_, ?_, ?_, ?_, ?_, ?_, ?_, ?_, ?_, ?_, ?_, ?_, ?_, ?_, ?_, ?_, ?_, ?_, ?_, ?_, ?_, ?_, ?_, ?_, ?_, ?_, ?_, ?_, ?_, ?_, ?_, ?_, trivial⟩
      · refine Any.owes_plain rfl fun ρ wo hs' hb hc' => ?_
        have h0 : ρ (.tmp 0) = .string s := hs'.old' 0 (by kernel_rfl)
        exact Any.ok_move (Any.post_val hb rfl h0)
      · refine Any.owes_plain rfl fun ρ wo hs' hb hc' => ?_
        have h3 : ρ (.tmp 3) = .string s := hs'.new' 3 0 (by kernel_rfl)
        go_simp
        exact Any.post_val hb rfl rfl
      · refine Any.owes_plain rfl fun ρ wo hs' hb hc' => ?_
        have h4 : ρ (.tmp 4) = .int .i64 s.size := hs'.new' 4 1 (by kernel_rfl)
        go_simp
        exact Any.post_val hb rfl rfl
      · refine Any.owes_plain rfl fun ρ wo hs' hb hc' => ?_
        have h5 : ρ (.tmp 5) = .bool false := hs'.new' 5 2 (by kernel_rfl)
        exact Any.ok_move (Any.post_val hb rfl h5)
      · exact Any.owes_off rfl rfl (by kernel_rfl) rfl (by decide) rfl
      · exact Any.owes_off rfl rfl (by kernel_rfl) rfl (by decide) rfl
      · refine Any.owes_plain rfl fun ρ wo hs' hb hc' => ?_
        have h6 : ρ (.tmp 6) = .bool false := hs'.new' 6 3 (by kernel_rfl)
        go_simp
        exact Any.post_val hb rfl rfl
      · refine Any.owes_plain rfl fun ρ wo hs' hb hc' => ?_
        have h9 : ρ (.tmp 9) = .bool false := hs'.new' 9 6 (by kernel_rfl)
        exact Any.ok_move (Any.post_val hb rfl h9)
      · exact Any.owes_off rfl rfl (by kernel_rfl) rfl (by decide) rfl
      · exact Any.owes_off rfl rfl (by kernel_rfl) rfl (by decide) rfl
      · exact Any.owes_off rfl rfl (by kernel_rfl) rfl (by decide) rfl
      · refine Any.owes_plain rfl fun ρ wo hs' hb hc' => ?_
        have h10 : ρ (.tmp 10) = .bool false := hs'.new' 10 7 (by kernel_rfl)
        go_simp
        exact Any.post_val hb rfl rfl
      · refine Any.owes_plain rfl fun ρ wo hs' hb hc' => ?_
        have h14 : ρ (.tmp 14) = .bool false := hs'.new' 14 11 (by kernel_rfl)
        exact Any.ok_move (Any.post_val hb rfl h14)
      · exact Any.owes_off rfl rfl (by kernel_rfl) rfl (by decide) rfl
      · exact Any.owes_off rfl rfl (by kernel_rfl) rfl (by decide) rfl
      · exact Any.owes_off rfl rfl (by kernel_rfl) rfl (by decide) rfl
      · refine Any.owes_plain rfl fun ρ wo hs' hb hc' => ?_
        have h15 : ρ (.tmp 15) = .bool false := hs'.new' 15 12 (by kernel_rfl)
        go_simp
        exact Any.post_val hb rfl rfl
      · refine Any.owes_plain rfl fun ρ wo hs' hb hc' => ?_
        have h19 : ρ (.tmp 19) = .bool false := hs'.new' 19 16 (by kernel_rfl)
        exact Any.ok_move (Any.post_val hb rfl h19)
      · exact Any.owes_off rfl rfl (by kernel_rfl) rfl (by decide) rfl
      · exact Any.owes_off rfl rfl (by kernel_rfl) rfl (by decide) rfl
      · exact Any.owes_off rfl rfl (by kernel_rfl) rfl (by decide) rfl
      · exact Any.owes_off rfl rfl (by kernel_rfl) rfl (by decide) rfl
      · exact Any.owes_off rfl rfl (by kernel_rfl) rfl (by decide) rfl
      · exact Any.owes_off rfl rfl (by kernel_rfl) rfl (by decide) rfl
      · exact Any.owes_off rfl rfl (by kernel_rfl) rfl (by decide) rfl
      · exact Any.owes_off rfl rfl (by kernel_rfl) rfl (by decide) rfl
      · exact Any.owes_off rfl rfl (by kernel_rfl) rfl (by decide) rfl
      · exact Any.owes_off rfl rfl (by kernel_rfl) rfl (by decide) rfl
      · exact Any.owes_off rfl rfl (by kernel_rfl) rfl (by decide) rfl
      · exact Any.owes_off rfl rfl (by kernel_rfl) rfl (by decide) rfl
      · exact Any.owes_off rfl rfl (by kernel_rfl) rfl (by decide) rfl
      · refine Any.owes_plain rfl fun ρ wo hs' hb hc' => ?_
        have h20 : ρ (.tmp 20) = .bool false := hs'.new' 20 17 (by kernel_rfl)
        go_simp
        exact Any.post_val hb rfl rfl
      · refine Any.owes_plain rfl fun ρ wo hs' hb hc' => ?_
        have h34 : ρ (.tmp 34) = .bool false := hs'.new' 34 31 (by kernel_rfl)
        exact Any.ok_assign (Any.post_val hb rfl h34)
    intro vals wz hb hk ha
    have h32 : vals 32 = .bool false := hk 32 (by kernel_rfl)
    have HBZ := Lib.hid hb
    clear hk ha hb
    simp only [Any.putAll]
    go_frame
    simp only [Nat.zero_add, Nat.reduceAdd]
    rw [h32]
    clear h32
    go_wp2_with fail
    go_ret
    exact retB HQ.out.symm HBZ.out
  have HSZ := Lib.hid h12
  have t2 : ((s.size : Int) == 12) = true := by simp; omega
  have HV : Hid (markOk (bt s) = (headB (bt s) && decide ((bt s).drop 10 = digK 2 (sumM (bt s)).toNat))) := Lib.hid (by rw [markOk, bt_len, decide_eq_true h12, Bool.true_and])
  have HTW := Lib.hid (fun hh => mark_two (s := bt s) (by rw [bt_len]; exact h12) hh)
  have HSM := Lib.hid (fun W => refSum3_any s W hm)
  have HC10 := Lib.hid (chAt_is s 10 (by omega)).symm
  have HC11 := Lib.hid (chAt_is s 11 (by omega)).symm
  have HG10 := Lib.hid (fun W => digit3_any (chAt (bt s) 10) W)
  have HG11 := Lib.hid (fun W => digit3_any (chAt (bt s) 11) W)
  obtain ⟨c10, h10⟩ : ∃ c, c = chAt (bt s) 10 := ⟨_, rfl⟩
  obtain ⟨c11, h11⟩ : ∃ c, c = chAt (bt s) 11 := ⟨_, rfl⟩
  have hc10 : (0 : Int) ≤ c10 ∧ c10 ≤ 255 := by rw [h10, ← HC10.out]; have := UInt8.toNat_lt (s[10]'(by omega)); omega
  have hc11 : (0 : Int) ≤ c11 ∧ c11 ≤ 255 := by rw [h11, ← HC11.out]; have := UInt8.toNat_lt (s[11]'(by omega)); omega
  rw [← h10] at HC10 HG10 HTW
  rw [← h11] at HC11 HG11 HTW
  clear h10 h11
  generalize headB (bt s) = rh at *
  cases rh
  · have HQ : Hid (markOk (bt s) = false) := Lib.hid (by rw [HV.out]; rfl)
    go_enter Tryz.func40, Tryz.ntmps40
    go_wp2_with fail
    refine Any.region_lit (fun
      | 0 => Any.val (.string s)
      | 1 => Any.val (.int .i64 s.size)
      | 2 => Any.val (.bool true)
      | 3 => Any.val (.bool true)
      | 4 => Any.val (.string s)
      | 5 => Any.val (.bool false)
      | 6 => Any.val (.bool false)
      | 7 => Any.val (.bool false)
      | 8 => Any.idle
      | 9 => Any.idle
      | 10 => Any.idle
      | 11 => Any.val (.bool false)
      | 12 => Any.val (.bool false)
      | 13 => Any.idle
      | 14 => Any.idle
      | 15 => Any.idle
      | 16 => Any.val (.bool false)
      | 17 => Any.val (.bool false)
      | 18 => Any.idle
      | 19 => Any.idle
      | 20 => Any.idle
      | 21 => Any.idle
      | 22 => Any.idle
      | 23 => Any.idle
      | 24 => Any.idle
      | 25 => Any.idle
      | 26 => Any.idle
      | 27 => Any.idle
      | 28 => Any.idle
      | 29 => Any.idle
      | 30 => Any.idle
      | 31 => Any.val (.bool false)
      | 32 => Any.val (.bool false)
      | _ => Any.idle) (by kernel_rfl) (by kernel_rfl) (by kernel_rfl) ?_ ?_ ?_
    · intro i _
      match i with
      | 0 => exact Any.lasts_val _
      | 1 => exact Any.lasts_val _
      | 2 => exact Any.lasts_val _
      | 3 => exact Any.lasts_val _
      | 4 => exact Any.lasts_val _
      | 5 => exact Any.lasts_val _
      | 6 => exact Any.lasts_val _
      | 7 => exact Any.lasts_val _
      | 8 => exact Any.lasts_idle
      | 9 => exact Any.lasts_idle
      | 10 => exact Any.lasts_idle
      | 11 => exact Any.lasts_val _
      | 12 => exact Any.lasts_val _
      | 13 => exact Any.lasts_idle
      | 14 => exact Any.lasts_idle
      | 15 => exact Any.lasts_idle
      | 16 => exact Any.lasts_val _
      | 17 => exact Any.lasts_val _
      | 18 => exact Any.lasts_idle
      | 19 => exact Any.lasts_idle
      | 20 => exact Any.lasts_idle
      | 21 => exact Any.lasts_idle
      | 22 => exact Any.lasts_idle
      | 23 => exact Any.lasts_idle
      | 24 => exact Any.lasts_idle
      | 25 => exact Any.lasts_idle
      | 26 => exact Any.lasts_idle
      | 27 => exact Any.lasts_idle
      | 28 => exact Any.lasts_idle
      | 29 => exact Any.lasts_idle
      | 30 => exact Any.lasts_idle
      | 31 => exact Any.lasts_val _
      | 32 => exact Any.lasts_val _
      | n + 33 => exact Any.lasts_idle
    · refine ⟨?_, ?_, ?_, ?_, ?_, ?_, ?_, ?_, ?_, ?_, ?_, ?_, ?_, ?_, ?_, ?_, ?_, ?_, ?_, ?_, ?_, ?_, ?_, ?_, ?_, ?_, ?_, ?_, ?_, ?_, ?_, ?_, ?_, trivial⟩
      · refine Any.owes_plain rfl fun ρ wo hs' hb hc' => ?_
        have h0 : ρ (.tmp 0) = .string s := hs'.old' 0 (by kernel_rfl)
        exact Any.ok_move (Any.post_val hb rfl h0)
      · refine Any.owes_plain rfl fun ρ wo hs' hb hc' => ?_
        have h3 : ρ (.tmp 3) = .string s := hs'.new' 3 0 (by kernel_rfl)
        go_simp
        exact Any.post_val hb rfl rfl
      · refine Any.owes_plain rfl fun ρ wo hs' hb hc' => ?_
        have h4 : ρ (.tmp 4) = .int .i64 s.size := hs'.new' 4 1 (by kernel_rfl)
        go_simp
        exact Any.post_val hb rfl rfl
      · refine Any.owes_plain rfl fun ρ wo hs' hb hc' => ?_
        have h5 : ρ (.tmp 5) = .bool true := hs'.new' 5 2 (by kernel_rfl)
        exact Any.ok_move (Any.post_val hb rfl h5)
      · refine Any.owes_on rfl rfl (by kernel_rfl) rfl fun ρ wo hs' hb hc' => ?_
        have h0 : ρ (.tmp 0) = .string s := hs'.old' 0 (by kernel_rfl)
        exact Any.ok_move (Any.post_val hb rfl h0)
      · refine Any.owes_on rfl rfl (by kernel_rfl) rfl fun ρ wo hs' hb hc' => ?_
        have h7 : ρ (.tmp 7) = .string s := hs'.new' 7 4 (by kernel_rfl)
        have hf := hs'.func 72
        go_simp
        exact (HHD.out wo).mono fun e w' ⟨he, hb'⟩ => ⟨_, he, Any.post_vals hb rfl rfl hb'⟩
      · refine Any.owes_plain rfl fun ρ wo hs' hb hc' => ?_
        have h6 : ρ (.tmp 6) = .bool true := hs'.new' 6 3 (by kernel_rfl)
        have h8 : ρ (.tmp 8) = .bool false := hs'.new' 8 5 (by kernel_rfl)
        go_simp
        exact Any.post_val hb rfl rfl
      · refine Any.owes_plain rfl fun ρ wo hs' hb hc' => ?_
        have h9 : ρ (.tmp 9) = .bool false := hs'.new' 9 6 (by kernel_rfl)
        exact Any.ok_move (Any.post_val hb rfl h9)
      · exact Any.owes_off rfl rfl (by kernel_rfl) rfl (by decide) rfl
      · exact Any.owes_off rfl rfl (by kernel_rfl) rfl (by decide) rfl
      · exact Any.owes_off rfl rfl (by kernel_rfl) rfl (by decide) rfl
      · refine Any.owes_plain rfl fun ρ wo hs' hb hc' => ?_
        have h10 : ρ (.tmp 10) = .bool false := hs'.new' 10 7 (by kernel_rfl)
        go_simp
        exact Any.post_val hb rfl rfl
      · refine Any.owes_plain rfl fun ρ wo hs' hb hc' => ?_
        have h14 : ρ (.tmp 14) = .bool false := hs'.new' 14 11 (by kernel_rfl)
        exact Any.ok_move (Any.post_val hb rfl h14)
      · exact Any.owes_off rfl rfl (by kernel_rfl) rfl (by decide) rfl
      · exact Any.owes_off rfl rfl (by kernel_rfl) rfl (by decide) rfl
      · exact Any.owes_off rfl rfl (by kernel_rfl) rfl (by decide) rfl
      · refine Any.owes_plain rfl fun ρ wo hs' hb hc' => ?_
        have h15 : ρ (.tmp 15) = .bool false := hs'.new' 15 12 (by kernel_rfl)
        go_simp
        exact Any.post_val hb rfl rfl
      · refine Any.owes_plain rfl fun ρ wo hs' hb hc' => ?_
        have h19 : ρ (.tmp 19) = .bool false := hs'.new' 19 16 (by kernel_rfl)
        exact Any.ok_move (Any.post_val hb rfl h19)
      · exact Any.owes_off rfl rfl (by kernel_rfl) rfl (by decide) rfl
      · exact Any.owes_off rfl rfl (by kernel_rfl) rfl (by decide) rfl
      · exact Any.owes_off rfl rfl (by kernel_rfl) rfl (by decide) rfl
      · exact Any.owes_off rfl rfl (by kernel_rfl) rfl (by decide) rfl
      · exact Any.owes_off rfl rfl (by kernel_rfl) rfl (by decide) rfl
      · exact Any.owes_off rfl rfl (by kernel_rfl) rfl (by decide) rfl
      · exact Any.owes_off rfl rfl (by kernel_rfl) rfl (by decide) rfl
      · exact Any.owes_off rfl rfl (by kernel_rfl) rfl (by decide) rfl
      · exact Any.owes_off rfl rfl (by kernel_rfl) rfl (by decide) rfl
      · exact Any.owes_off rfl rfl (by kernel_rfl) rfl (by decide) rfl
      · exact Any.owes_off rfl rfl (by kernel_rfl) rfl (by decide) rfl
      · exact Any.owes_off rfl rfl (by kernel_rfl) rfl (by decide) rfl
      · exact Any.owes_off rfl rfl (by kernel_rfl) rfl (by decide) rfl
      · refine Any.owes_plain rfl fun ρ wo hs' hb hc' => ?_
        have h20 : ρ (.tmp 20) = .bool false := hs'.new' 20 17 (by kernel_rfl)
        go_simp
        exact Any.post_val hb rfl rfl
      · refine Any.owes_plain rfl fun ρ wo hs' hb hc' => ?_
        have h34 : ρ (.tmp 34) = .bool false := hs'.new' 34 31 (by kernel_rfl)
        exact Any.ok_assign (Any.post_val hb rfl h34)
    intro vals wz hb hk ha
    have h32 : vals 32 = .bool false := hk 32 (by kernel_rfl)
    have HBZ := Lib.hid hb
    clear hk ha hb
    simp only [Any.putAll]
    go_frame
    simp only [Nat.zero_add, Nat.reduceAdd]
    rw [h32]
    clear h32
    go_wp2_with fail
    go_ret
    exact retB HQ.out.symm HBZ.out
  have HE := Lib.hid (HTW.out rfl)
  generalize digit c10 = r10 at *
  cases r10
  · have HQ : Hid (markOk (bt s) = false) := Lib.hid (by rw [HV.out, HE.out]; rfl)
    go_enter Tryz.func40, Tryz.ntmps40
    go_wp2_with fail
    refine Any.region_lit (fun
      | 0 => Any.val (.string s)
      | 1 => Any.val (.int .i64 s.size)
      | 2 => Any.val (.bool true)
      | 3 => Any.val (.bool true)
      | 4 => Any.val (.string s)
      | 5 => Any.val (.bool true)
      | 6 => Any.val (.bool true)
      | 7 => Any.val (.bool true)
      | 8 => Any.val (.string s)
      | 9 => Any.val (.int .u8 c10)
      | 10 => Any.val (.bool false)
      | 11 => Any.val (.bool false)
      | 12 => Any.val (.bool false)
      | 13 => Any.idle
      | 14 => Any.idle
      | 15 => Any.idle
      | 16 => Any.val (.bool false)
      | 17 => Any.val (.bool false)
      | 18 => Any.idle
      | 19 => Any.idle
      | 20 => Any.idle
      | 21 => Any.idle
      | 22 => Any.idle
      | 23 => Any.idle
      | 24 => Any.idle
      | 25 => Any.idle
      | 26 => Any.idle
      | 27 => Any.idle
      | 28 => Any.idle
      | 29 => Any.idle
      | 30 => Any.idle
      | 31 => Any.val (.bool false)
      | 32 => Any.val (.bool false)
      | _ => Any.idle) (by kernel_rfl) (by kernel_rfl) (by kernel_rfl) ?_ ?_ ?_
    · intro i _
      match i with
      | 0 => exact Any.lasts_val _
      | 1 => exact Any.lasts_val _
      | 2 => exact Any.lasts_val _
      | 3 => exact Any.lasts_val _
      | 4 => exact Any.lasts_val _
      | 5 => exact Any.lasts_val _
      | 6 => exact Any.lasts_val _
      | 7 => exact Any.lasts_val _
      | 8 => exact Any.lasts_val _
      | 9 => exact Any.lasts_val _
      | 10 => exact Any.lasts_val _
      | 11 => exact Any.lasts_val _
      | 12 => exact Any.lasts_val _
      | 13 => exact Any.lasts_idle
      | 14 => exact Any.lasts_idle
      | 15 => exact Any.lasts_idle
      | 16 => exact Any.lasts_val _
      | 17 => exact Any.lasts_val _
      | 18 => exact Any.lasts_idle
      | 19 => exact Any.lasts_idle
      | 20 => exact Any.lasts_idle
      | 21 => exact Any.lasts_idle
      | 22 => exact Any.lasts_idle
      | 23 => exact Any.lasts_idle
      | 24 => exact Any.lasts_idle
      | 25 => exact Any.lasts_idle
      | 26 => exact Any.lasts_idle
      | 27 => exact Any.lasts_idle
      | 28 => exact Any.lasts_idle
      | 29 => exact Any.lasts_idle
      | 30 => exact Any.lasts_idle
      | 31 => exact Any.lasts_val _
      | 32 => exact Any.lasts_val _
      | n + 33 => exact Any.lasts_idle
    · refine ⟨?_, ?_, ?_, ?_, ?_, ?_, ?_, ?_, ?_, ?_, ?_, ?_, ?_, ?_, ?_, ?_, ?_, ?_, ?_, ?_, ?_, ?_, ?_, ?_, ?_, ?_, ?_, ?_, ?_, ?_, ?_, ?_, ?_, trivial⟩
      · refine Any.owes_plain rfl fun ρ wo hs' hb hc' => ?_
        have h0 : ρ (.tmp 0) = .string s := hs'.old' 0 (by kernel_rfl)
        exact Any.ok_move (Any.post_val hb rfl h0)
      · refine Any.owes_plain rfl fun ρ wo hs' hb hc' => ?_
        have h3 : ρ (.tmp 3) = .string s := hs'.new' 3 0 (by kernel_rfl)
        go_simp
        exact Any.post_val hb rfl rfl
      · refine Any.owes_plain rfl fun ρ wo hs' hb hc' => ?_
        have h4 : ρ (.tmp 4) = .int .i64 s.size := hs'.new' 4 1 (by kernel_rfl)
        go_simp
        exact Any.post_val hb rfl rfl
      · refine Any.owes_plain rfl fun ρ wo hs' hb hc' => ?_
        have h5 : ρ (.tmp 5) = .bool true := hs'.new' 5 2 (by kernel_rfl)
        exact Any.ok_move (Any.post_val hb rfl h5)
      · refine Any.owes_on rfl rfl (by kernel_rfl) rfl fun ρ wo hs' hb hc' => ?_
        have h0 : ρ (.tmp 0) = .string s := hs'.old' 0 (by kernel_rfl)
        exact Any.ok_move (Any.post_val hb rfl h0)
      · refine Any.owes_on rfl rfl (by kernel_rfl) rfl fun ρ wo hs' hb hc' => ?_
        have h7 : ρ (.tmp 7) = .string s := hs'.new' 7 4 (by kernel_rfl)
        have hf := hs'.func 72
        go_simp
        exact (HHD.out wo).mono fun e w' ⟨he, hb'⟩ => ⟨_, he, Any.post_vals hb rfl rfl hb'⟩
      · refine Any.owes_plain rfl fun ρ wo hs' hb hc' => ?_
        have h6 : ρ (.tmp 6) = .bool true := hs'.new' 6 3 (by kernel_rfl)
        have h8 : ρ (.tmp 8) = .bool true := hs'.new' 8 5 (by kernel_rfl)
        go_simp
        exact Any.post_val hb rfl rfl
      · refine Any.owes_plain rfl fun ρ wo hs' hb hc' => ?_
        have h9 : ρ (.tmp 9) = .bool true := hs'.new' 9 6 (by kernel_rfl)
        exact Any.ok_move (Any.post_val hb rfl h9)
      · refine Any.owes_on rfl rfl (by kernel_rfl) rfl fun ρ wo hs' hb hc' => ?_
        have h0 : ρ (.tmp 0) = .string s := hs'.old' 0 (by kernel_rfl)
        exact Any.ok_move (Any.post_val hb rfl h0)
      · refine Any.owes_on rfl rfl (by kernel_rfl) rfl fun ρ wo hs' hb hc' => ?_
        have h11 : ρ (.tmp 11) = .string s := hs'.new' 11 8 (by kernel_rfl)
        have e0 : (10 : Int) < (s.size : Int) := by have := HSZ.out; omega
        have e1 : ((s[10]'(by have := HSZ.out; omega)).toNat : Int) = c10 := HC10.out
        go_simp
        exact Any.post_val hb rfl rfl
      · refine Any.owes_on rfl rfl (by kernel_rfl) rfl fun ρ wo hs' hb hc' => ?_
        have h12 : ρ (.tmp 12) = .int .u8 c10 := hs'.new' 12 9 (by kernel_rfl)
        have hf := hs'.func 73
        go_simp
        exact (HG10.out wo).mono fun e w' ⟨he, hb'⟩ => ⟨_, he, Any.post_vals hb rfl rfl hb'⟩
      · refine Any.owes_plain rfl fun ρ wo hs' hb hc' => ?_
        have h10 : ρ (.tmp 10) = .bool true := hs'.new' 10 7 (by kernel_rfl)
        have h13 : ρ (.tmp 13) = .bool false := hs'.new' 13 10 (by kernel_rfl)
        go_simp
        exact Any.post_val hb rfl rfl
      · refine Any.owes_plain rfl fun ρ wo hs' hb hc' => ?_
        have h14 : ρ (.tmp 14) = .bool false := hs'.new' 14 11 (by kernel_rfl)
        exact Any.ok_move (Any.post_val hb rfl h14)
      · exact Any.owes_off rfl rfl (by kernel_rfl) rfl (by decide) rfl
      · exact Any.owes_off rfl rfl (by kernel_rfl) rfl (by decide) rfl
      · exact Any.owes_off rfl rfl (by kernel_rfl) rfl (by decide) rfl
      · refine Any.owes_plain rfl fun ρ wo hs' hb hc' => ?_
        have h15 : ρ (.tmp 15) = .bool false := hs'.new' 15 12 (by kernel_rfl)
        go_simp
        exact Any.post_val hb rfl rfl
      · refine Any.owes_plain rfl fun ρ wo hs' hb hc' => ?_
        have h19 : ρ (.tmp 19) = .bool false := hs'.new' 19 16 (by kernel_rfl)
        exact Any.ok_move (Any.post_val hb rfl h19)
      · exact Any.owes_off rfl rfl (by kernel_rfl) rfl (by decide) rfl
      · exact Any.owes_off rfl rfl (by kernel_rfl) rfl (by decide) rfl
      · exact Any.owes_off rfl rfl (by kernel_rfl) rfl (by decide) rfl
      · exact Any.owes_off rfl rfl (by kernel_rfl) rfl (by decide) rfl
      · exact Any.owes_off rfl rfl (by kernel_rfl) rfl (by decide) rfl
      · exact Any.owes_off rfl rfl (by kernel_rfl) rfl (by decide) rfl
      · exact Any.owes_off rfl rfl (by kernel_rfl) rfl (by decide) rfl
      · exact Any.owes_off rfl rfl (by kernel_rfl) rfl (by decide) rfl
      · exact Any.owes_off rfl rfl (by kernel_rfl) rfl (by decide) rfl
      · exact Any.owes_off rfl rfl (by kernel_rfl) rfl (by decide) rfl
      · exact Any.owes_off rfl rfl (by kernel_rfl) rfl (by decide) rfl
      · exact Any.owes_off rfl rfl (by kernel_rfl) rfl (by decide) rfl
      · exact Any.owes_off rfl rfl (by kernel_rfl) rfl (by decide) rfl
      · refine Any.owes_plain rfl fun ρ wo hs' hb hc' => ?_
        have h20 : ρ (.tmp 20) = .bool false := hs'.new' 20 17 (by kernel_rfl)
        go_simp
        exact Any.post_val hb rfl rfl
      · refine Any.owes_plain rfl fun ρ wo hs' hb hc' => ?_
        have h34 : ρ (.tmp 34) = .bool false := hs'.new' 34 31 (by kernel_rfl)
        exact Any.ok_assign (Any.post_val hb rfl h34)
    intro vals wz hb hk ha
    have h32 : vals 32 = .bool false := hk 32 (by kernel_rfl)
    have HBZ := Lib.hid hb
    clear hk ha hb
    simp only [Any.putAll]
    go_frame
    simp only [Nat.zero_add, Nat.reduceAdd]
    rw [h32]
    clear h32
    go_wp2_with fail
    go_ret
    exact retB HQ.out.symm HBZ.out
  generalize digit c11 = r11 at *
  cases r11
  · have HQ : Hid (markOk (bt s) = false) := Lib.hid (by rw [HV.out, HE.out]; rfl)
    go_enter Tryz.func40, Tryz.ntmps40
    go_wp2_with fail
    refine Any.region_lit (fun
      | 0 => Any.val (.string s)
      | 1 => Any.val (.int .i64 s.size)
      | 2 => Any.val (.bool true)
      | 3 => Any.val (.bool true)
      | 4 => Any.val (.string s)
      | 5 => Any.val (.bool true)
      | 6 => Any.val (.bool true)
      | 7 => Any.val (.bool true)
      | 8 => Any.val (.string s)
      | 9 => Any.val (.int .u8 c10)
      | 10 => Any.val (.bool true)
      | 11 => Any.val (.bool true)
      | 12 => Any.val (.bool true)
      | 13 => Any.val (.string s)
      | 14 => Any.val (.int .u8 c11)
      | 15 => Any.val (.bool false)
      | 16 => Any.val (.bool false)
      | 17 => Any.val (.bool false)
      | 18 => Any.idle
      | 19 => Any.idle
      | 20 => Any.idle
      | 21 => Any.idle
      | 22 => Any.idle
      | 23 => Any.idle
      | 24 => Any.idle
      | 25 => Any.idle
      | 26 => Any.idle
      | 27 => Any.idle
      | 28 => Any.idle
      | 29 => Any.idle
      | 30 => Any.idle
      | 31 => Any.val (.bool false)
      | 32 => Any.val (.bool false)
      | _ => Any.idle) (by kernel_rfl) (by kernel_rfl) (by kernel_rfl) ?_ ?_ ?_
    · intro i _
      match i with
      | 0 => exact Any.lasts_val _
      | 1 => exact Any.lasts_val _
      | 2 => exact Any.lasts_val _
      | 3 => exact Any.lasts_val _
      | 4 => exact Any.lasts_val _
      | 5 => exact Any.lasts_val _
      | 6 => exact Any.lasts_val _
      | 7 => exact Any.lasts_val _
      | 8 => exact Any.lasts_val _
      | 9 => exact Any.lasts_val _
      | 10 => exact Any.lasts_val _
      | 11 => exact Any.lasts_val _
      | 12 => exact Any.lasts_val _
      | 13 => exact Any.lasts_val _
      | 14 => exact Any.lasts_val _
      | 15 => exact Any.lasts_val _
      | 16 => exact Any.lasts_val _
      | 17 => exact Any.lasts_val _
      | 18 => exact Any.lasts_idle
      | 19 => exact Any.lasts_idle
      | 20 => exact Any.lasts_idle
      | 21 => exact Any.lasts_idle
      | 22 => exact Any.lasts_idle
      | 23 => exact Any.lasts_idle
      | 24 => exact Any.lasts_idle
      | 25 => exact Any.lasts_idle
      | 26 => exact Any.lasts_idle
      | 27 => exact Any.lasts_idle
      | 28 => exact Any.lasts_idle
      | 29 => exact Any.lasts_idle
      | 30 => exact Any.lasts_idle
      | 31 => exact Any.lasts_val _
      | 32 => exact Any.lasts_val _
      | n + 33 => exact Any.lasts_idle
    · refine ⟨?_, ?_, ?_, ?_, ?_, ?_, ?_, ?_, ?_, ?_, ?_, ?_, ?_, ?_, ?_, ?_, ?_, ?_, ?_, ?_, ?_, ?_, ?_, ?_, ?_, ?_, ?_, ?_, ?_, ?_, ?_, ?_, ?_, trivial⟩
      · refine Any.owes_plain rfl fun ρ wo hs' hb hc' => ?_
        have h0 : ρ (.tmp 0) = .string s := hs'.old' 0 (by kernel_rfl)
        exact Any.ok_move (Any.post_val hb rfl h0)
      · refine Any.owes_plain rfl fun ρ wo hs' hb hc' => ?_
        have h3 : ρ (.tmp 3) = .string s := hs'.new' 3 0 (by kernel_rfl)
        go_simp
        exact Any.post_val hb rfl rfl
      · refine Any.owes_plain rfl fun ρ wo hs' hb hc' => ?_
        have h4 : ρ (.tmp 4) = .int .i64 s.size := hs'.new' 4 1 (by kernel_rfl)
        go_simp
        exact Any.post_val hb rfl rfl
      · refine Any.owes_plain rfl fun ρ wo hs' hb hc' => ?_
        have h5 : ρ (.tmp 5) = .bool true := hs'.new' 5 2 (by kernel_rfl)
        exact Any.ok_move (Any.post_val hb rfl h5)
      · refine Any.owes_on rfl rfl (by kernel_rfl) rfl fun ρ wo hs' hb hc' => ?_
        have h0 : ρ (.tmp 0) = .string s := hs'.old' 0 (by kernel_rfl)
        exact Any.ok_move (Any.post_val hb rfl h0)
      · refine Any.owes_on rfl rfl (by kernel_rfl) rfl fun ρ wo hs' hb hc' => ?_
        have h7 : ρ (.tmp 7) = .string s := hs'.new' 7 4 (by kernel_rfl)
        have hf := hs'.func 72
        go_simp
        exact (HHD.out wo).mono fun e w' ⟨he, hb'⟩ => ⟨_, he, Any.post_vals hb rfl rfl hb'⟩
      · refine Any.owes_plain rfl fun ρ wo hs' hb hc' => ?_
        have h6 : ρ (.tmp 6) = .bool true := hs'.new' 6 3 (by kernel_rfl)
        have h8 : ρ (.tmp 8) = .bool true := hs'.new' 8 5 (by kernel_rfl)
        go_simp
        exact Any.post_val hb rfl rfl
      · refine Any.owes_plain rfl fun ρ wo hs' hb hc' => ?_
        have h9 : ρ (.tmp 9) = .bool true := hs'.new' 9 6 (by kernel_rfl)
        exact Any.ok_move (Any.post_val hb rfl h9)
      · refine Any.owes_on rfl rfl (by kernel_rfl) rfl fun ρ wo hs' hb hc' => ?_
        have h0 : ρ (.tmp 0) = .string s := hs'.old' 0 (by kernel_rfl)
        exact Any.ok_move (Any.post_val hb rfl h0)
      · refine Any.owes_on rfl rfl (by kernel_rfl) rfl fun ρ wo hs' hb hc' => ?_
        have h11 : ρ (.tmp 11) = .string s := hs'.new' 11 8 (by kernel_rfl)
        have e0 : (10 : Int) < (s.size : Int) := by have := HSZ.out; omega
        have e1 : ((s[10]'(by have := HSZ.out; omega)).toNat : Int) = c10 := HC10.out
        go_simp
        exact Any.post_val hb rfl rfl
      · refine Any.owes_on rfl rfl (by kernel_rfl) rfl fun ρ wo hs' hb hc' => ?_
        have h12 : ρ (.tmp 12) = .int .u8 c10 := hs'.new' 12 9 (by kernel_rfl)
        have hf := hs'.func 73
        go_simp
        exact (HG10.out wo).mono fun e w' ⟨he, hb'⟩ => ⟨_, he, Any.post_vals hb rfl rfl hb'⟩
      · refine Any.owes_plain rfl fun ρ wo hs' hb hc' => ?_
        have h10 : ρ (.tmp 10) = .bool true := hs'.new' 10 7 (by kernel_rfl)
        have h13 : ρ (.tmp 13) = .bool true := hs'.new' 13 10 (by kernel_rfl)
        go_simp
        exact Any.post_val hb rfl rfl
      · refine Any.owes_plain rfl fun ρ wo hs' hb hc' => ?_
        have h14 : ρ (.tmp 14) = .bool true := hs'.new' 14 11 (by kernel_rfl)
        exact Any.ok_move (Any.post_val hb rfl h14)
      · refine Any.owes_on rfl rfl (by kernel_rfl) rfl fun ρ wo hs' hb hc' => ?_
        have h0 : ρ (.tmp 0) = .string s := hs'.old' 0 (by kernel_rfl)
        exact Any.ok_move (Any.post_val hb rfl h0)
      · refine Any.owes_on rfl rfl (by kernel_rfl) rfl fun ρ wo hs' hb hc' => ?_
        have h16 : ρ (.tmp 16) = .string s := hs'.new' 16 13 (by kernel_rfl)
        have e0 : (11 : Int) < (s.size : Int) := by have := HSZ.out; omega
        have e1 : ((s[11]'(by have := HSZ.out; omega)).toNat : Int) = c11 := HC11.out
        go_simp
        exact Any.post_val hb rfl rfl
      · refine Any.owes_on rfl rfl (by kernel_rfl) rfl fun ρ wo hs' hb hc' => ?_
        have h17 : ρ (.tmp 17) = .int .u8 c11 := hs'.new' 17 14 (by kernel_rfl)
        have hf := hs'.func 73
        go_simp
        exact (HG11.out wo).mono fun e w' ⟨he, hb'⟩ => ⟨_, he, Any.post_vals hb rfl rfl hb'⟩
      · refine Any.owes_plain rfl fun ρ wo hs' hb hc' => ?_
        have h15 : ρ (.tmp 15) = .bool true := hs'.new' 15 12 (by kernel_rfl)
        have h18 : ρ (.tmp 18) = .bool false := hs'.new' 18 15 (by kernel_rfl)
        go_simp
        exact Any.post_val hb rfl rfl
      · refine Any.owes_plain rfl fun ρ wo hs' hb hc' => ?_
        have h19 : ρ (.tmp 19) = .bool false := hs'.new' 19 16 (by kernel_rfl)
        exact Any.ok_move (Any.post_val hb rfl h19)
      · exact Any.owes_off rfl rfl (by kernel_rfl) rfl (by decide) rfl
      · exact Any.owes_off rfl rfl (by kernel_rfl) rfl (by decide) rfl
      · exact Any.owes_off rfl rfl (by kernel_rfl) rfl (by decide) rfl
      · exact Any.owes_off rfl rfl (by kernel_rfl) rfl (by decide) rfl
      · exact Any.owes_off rfl rfl (by kernel_rfl) rfl (by decide) rfl
      · exact Any.owes_off rfl rfl (by kernel_rfl) rfl (by decide) rfl
      · exact Any.owes_off rfl rfl (by kernel_rfl) rfl (by decide) rfl
      · exact Any.owes_off rfl rfl (by kernel_rfl) rfl (by decide) rfl
      · exact Any.owes_off rfl rfl (by kernel_rfl) rfl (by decide) rfl
      · exact Any.owes_off rfl rfl (by kernel_rfl) rfl (by decide) rfl
      · exact Any.owes_off rfl rfl (by kernel_rfl) rfl (by decide) rfl
      · exact Any.owes_off rfl rfl (by kernel_rfl) rfl (by decide) rfl
      · exact Any.owes_off rfl rfl (by kernel_rfl) rfl (by decide) rfl
      · refine Any.owes_plain rfl fun ρ wo hs' hb hc' => ?_
        have h20 : ρ (.tmp 20) = .bool false := hs'.new' 20 17 (by kernel_rfl)
        go_simp
        exact Any.post_val hb rfl rfl
      · refine Any.owes_plain rfl fun ρ wo hs' hb hc' => ?_
        have h34 : ρ (.tmp 34) = .bool false := hs'.new' 34 31 (by kernel_rfl)
        exact Any.ok_assign (Any.post_val hb rfl h34)
    intro vals wz hb hk ha
    have h32 : vals 32 = .bool false := hk 32 (by kernel_rfl)
    have HBZ := Lib.hid hb
    clear hk ha hb
    simp only [Any.putAll]
    go_frame
    simp only [Nat.zero_add, Nat.reduceAdd]
    rw [h32]
    clear h32
    go_wp2_with fail
    go_ret
    exact retB HQ.out.symm HBZ.out
  generalize sumM (bt s) = m at *
  obtain ⟨r, hr⟩ : ∃ r, r = decide (m = 10 * (c10 - 48) + c11 - 48) := ⟨_, rfl⟩
  have HR : Hid ((m == 10 * (c10 - 48) + c11 - 48) = r) := Lib.hid (by rw [hr]; rfl)
  have HQ : Hid (markOk (bt s) = r) := Lib.hid (by rw [HV.out, HE.out, hr]; rfl)
  clear hr HV HE HTW
  have w1 : wrap64 (10 * (c10 - 48)) = 10 * (c10 - 48) := IntWalk.wrap64_in _ (by omega)
  have w2 : wrap64 (10 * (c10 - 48) + c11) = 10 * (c10 - 48) + c11 := IntWalk.wrap64_in _ (by omega)
  have w3 : wrap64 (10 * (c10 - 48) + c11 - 48) = 10 * (c10 - 48) + c11 - 48 := IntWalk.wrap64_in _ (by omega)
  go_enter Tryz.func40, Tryz.ntmps40
  go_wp2_with fail
  refine Any.region_lit (fun
    | 0 => Any.val (.string s)
    | 1 => Any.val (.int .i64 s.size)
    | 2 => Any.val (.bool true)
    | 3 => Any.val (.bool true)
    | 4 => Any.val (.string s)
    | 5 => Any.val (.bool true)
    | 6 => Any.val (.bool true)
    | 7 => Any.val (.bool true)
    | 8 => Any.val (.string s)
    | 9 => Any.val (.int .u8 c10)
    | 10 => Any.val (.bool true)
    | 11 => Any.val (.bool true)
    | 12 => Any.val (.bool true)
    | 13 => Any.val (.string s)
    | 14 => Any.val (.int .u8 c11)
    | 15 => Any.val (.bool true)
    | 16 => Any.val (.bool true)
    | 17 => Any.val (.bool true)
    | 18 => Any.val (.string s)
    | 19 => Any.val (.int .i64 m)
    | 20 => Any.val (.string s)
    | 21 => Any.val (.int .u8 c10)
    | 22 => Any.val (.int .i64 (c10))
    | 23 => Any.val (.int .i64 (c10 - 48))
    | 24 => Any.val (.int .i64 (10 * (c10 - 48)))
    | 25 => Any.val (.string s)
    | 26 => Any.val (.int .u8 c11)
    | 27 => Any.val (.int .i64 (c11))
    | 28 => Any.val (.int .i64 (10 * (c10 - 48) + c11))
    | 29 => Any.val (.int .i64 (10 * (c10 - 48) + c11 - 48))
    | 30 => Any.val (.bool r)
    | 31 => Any.val (.bool r)
    | 32 => Any.val (.bool r)
    | _ => Any.idle) (by kernel_rfl) (by kernel_rfl) (by kernel_rfl) ?_ ?_ ?_
  · intro i _
    match i with
    | 0 => exact Any.lasts_val _
    | 1 => exact Any.lasts_val _
    | 2 => exact Any.lasts_val _
    | 3 => exact Any.lasts_val _
    | 4 => exact Any.lasts_val _
    | 5 => exact Any.lasts_val _
    | 6 => exact Any.lasts_val _
    | 7 => exact Any.lasts_val _
    | 8 => exact Any.lasts_val _
    | 9 => exact Any.lasts_val _
    | 10 => exact Any.lasts_val _
    | 11 => exact Any.lasts_val _
    | 12 => exact Any.lasts_val _
    | 13 => exact Any.lasts_val _
    | 14 => exact Any.lasts_val _
    | 15 => exact Any.lasts_val _
    | 16 => exact Any.lasts_val _
    | 17 => exact Any.lasts_val _
    | 18 => exact Any.lasts_val _
    | 19 => exact Any.lasts_val _
    | 20 => exact Any.lasts_val _
    | 21 => exact Any.lasts_val _
    | 22 => exact Any.lasts_val _
    | 23 => exact Any.lasts_val _
    | 24 => exact Any.lasts_val _
    | 25 => exact Any.lasts_val _
    | 26 => exact Any.lasts_val _
    | 27 => exact Any.lasts_val _
    | 28 => exact Any.lasts_val _
    | 29 => exact Any.lasts_val _
    | 30 => exact Any.lasts_val _
    | 31 => exact Any.lasts_val _
    | 32 => exact Any.lasts_val _
    | n + 33 => exact Any.lasts_idle
  · refine ⟨?_, ?_, ?_, ?_, ?_, ?_, ?_, ?_, ?_, ?_, ?_, ?_, ?_, ?_, ?_, ?_, ?_, ?_, ?_, ?_, ?_, ?_, ?_, ?_, ?_, ?_, ?_, ?_, ?_, ?_, ?_, ?_, ?_, trivial⟩
    · refine Any.owes_plain rfl fun ρ wo hs' hb hc' => ?_
      have h0 : ρ (.tmp 0) = .string s := hs'.old' 0 (by kernel_rfl)
      exact Any.ok_move (Any.post_val hb rfl h0)
    · refine Any.owes_plain rfl fun ρ wo hs' hb hc' => ?_
      have h3 : ρ (.tmp 3) = .string s := hs'.new' 3 0 (by kernel_rfl)
      go_simp
      exact Any.post_val hb rfl rfl
    · refine Any.owes_plain rfl fun ρ wo hs' hb hc' => ?_
      have h4 : ρ (.tmp 4) = .int .i64 s.size := hs'.new' 4 1 (by kernel_rfl)
      go_simp
      exact Any.post_val hb rfl rfl
    · refine Any.owes_plain rfl fun ρ wo hs' hb hc' => ?_
      have h5 : ρ (.tmp 5) = .bool true := hs'.new' 5 2 (by kernel_rfl)
      exact Any.ok_move (Any.post_val hb rfl h5)
    · refine Any.owes_on rfl rfl (by kernel_rfl) rfl fun ρ wo hs' hb hc' => ?_
      have h0 : ρ (.tmp 0) = .string s := hs'.old' 0 (by kernel_rfl)
      exact Any.ok_move (Any.post_val hb rfl h0)
    · refine Any.owes_on rfl rfl (by kernel_rfl) rfl fun ρ wo hs' hb hc' => ?_
      have h7 : ρ (.tmp 7) = .string s := hs'.new' 7 4 (by kernel_rfl)
      have hf := hs'.func 72
      go_simp
      exact (HHD.out wo).mono fun e w' ⟨he, hb'⟩ => ⟨_, he, Any.post_vals hb rfl rfl hb'⟩
    · refine Any.owes_plain rfl fun ρ wo hs' hb hc' => ?_
      have h6 : ρ (.tmp 6) = .bool true := hs'.new' 6 3 (by kernel_rfl)
      have h8 : ρ (.tmp 8) = .bool true := hs'.new' 8 5 (by kernel_rfl)
      go_simp
      exact Any.post_val hb rfl rfl
    · refine Any.owes_plain rfl fun ρ wo hs' hb hc' => ?_
      have h9 : ρ (.tmp 9) = .bool true := hs'.new' 9 6 (by kernel_rfl)
      exact Any.ok_move (Any.post_val hb rfl h9)
    · refine Any.owes_on rfl rfl (by kernel_rfl) rfl fun ρ wo hs' hb hc' => ?_
      have h0 : ρ (.tmp 0) = .string s := hs'.old' 0 (by kernel_rfl)
      exact Any.ok_move (Any.post_val hb rfl h0)
    · refine Any.owes_on rfl rfl (by kernel_rfl) rfl fun ρ wo hs' hb hc' => ?_
      have h11 : ρ (.tmp 11) = .string s := hs'.new' 11 8 (by kernel_rfl)
      have e0 : (10 : Int) < (s.size : Int) := by have := HSZ.out; omega
      have e1 : ((s[10]'(by have := HSZ.out; omega)).toNat : Int) = c10 := HC10.out
      go_simp
      exact Any.post_val hb rfl rfl
    · refine Any.owes_on rfl rfl (by kernel_rfl) rfl fun ρ wo hs' hb hc' => ?_
      have h12 : ρ (.tmp 12) = .int .u8 c10 := hs'.new' 12 9 (by kernel_rfl)
      have hf := hs'.func 73
      go_simp
      exact (HG10.out wo).mono fun e w' ⟨he, hb'⟩ => ⟨_, he, Any.post_vals hb rfl rfl hb'⟩
    · refine Any.owes_plain rfl fun ρ wo hs' hb hc' => ?_
      have h10 : ρ (.tmp 10) = .bool true := hs'.new' 10 7 (by kernel_rfl)
      have h13 : ρ (.tmp 13) = .bool true := hs'.new' 13 10 (by kernel_rfl)
      go_simp
      exact Any.post_val hb rfl rfl
    · refine Any.owes_plain rfl fun ρ wo hs' hb hc' => ?_
      have h14 : ρ (.tmp 14) = .bool true := hs'.new' 14 11 (by kernel_rfl)
      exact Any.ok_move (Any.post_val hb rfl h14)
    · refine Any.owes_on rfl rfl (by kernel_rfl) rfl fun ρ wo hs' hb hc' => ?_
      have h0 : ρ (.tmp 0) = .string s := hs'.old' 0 (by kernel_rfl)
      exact Any.ok_move (Any.post_val hb rfl h0)
    · refine Any.owes_on rfl rfl (by kernel_rfl) rfl fun ρ wo hs' hb hc' => ?_
      have h16 : ρ (.tmp 16) = .string s := hs'.new' 16 13 (by kernel_rfl)
      have e0 : (11 : Int) < (s.size : Int) := by have := HSZ.out; omega
      have e1 : ((s[11]'(by have := HSZ.out; omega)).toNat : Int) = c11 := HC11.out
      go_simp
      exact Any.post_val hb rfl rfl
    · refine Any.owes_on rfl rfl (by kernel_rfl) rfl fun ρ wo hs' hb hc' => ?_
      have h17 : ρ (.tmp 17) = .int .u8 c11 := hs'.new' 17 14 (by kernel_rfl)
      have hf := hs'.func 73
      go_simp
      exact (HG11.out wo).mono fun e w' ⟨he, hb'⟩ => ⟨_, he, Any.post_vals hb rfl rfl hb'⟩
    · refine Any.owes_plain rfl fun ρ wo hs' hb hc' => ?_
      have h15 : ρ (.tmp 15) = .bool true := hs'.new' 15 12 (by kernel_rfl)
      have h18 : ρ (.tmp 18) = .bool true := hs'.new' 18 15 (by kernel_rfl)
      go_simp
      exact Any.post_val hb rfl rfl
    · refine Any.owes_plain rfl fun ρ wo hs' hb hc' => ?_
      have h19 : ρ (.tmp 19) = .bool true := hs'.new' 19 16 (by kernel_rfl)
      exact Any.ok_move (Any.post_val hb rfl h19)
    · refine Any.owes_on rfl rfl (by kernel_rfl) rfl fun ρ wo hs' hb hc' => ?_
      have h0 : ρ (.tmp 0) = .string s := hs'.old' 0 (by kernel_rfl)
      exact Any.ok_move (Any.post_val hb rfl h0)
    · refine Any.owes_on rfl rfl (by kernel_rfl) rfl fun ρ wo hs' hb hc' => ?_
      have h21 : ρ (.tmp 21) = .string s := hs'.new' 21 18 (by kernel_rfl)
      have hf := hs'.func 71
      go_simp
      exact (HSM.out wo).mono fun e w' ⟨he, hb'⟩ => ⟨_, he, Any.post_vals hb rfl rfl hb'⟩
    · refine Any.owes_on rfl rfl (by kernel_rfl) rfl fun ρ wo hs' hb hc' => ?_
      have h0 : ρ (.tmp 0) = .string s := hs'.old' 0 (by kernel_rfl)
      exact Any.ok_move (Any.post_val hb rfl h0)
    · refine Any.owes_on rfl rfl (by kernel_rfl) rfl fun ρ wo hs' hb hc' => ?_
      have h23 : ρ (.tmp 23) = .string s := hs'.new' 23 20 (by kernel_rfl)
      have e0 : (10 : Int) < (s.size : Int) := by have := HSZ.out; omega
      have e1 : ((s[10]'(by have := HSZ.out; omega)).toNat : Int) = c10 := HC10.out
      go_simp
      exact Any.post_val hb rfl rfl
    · refine Any.owes_on rfl rfl (by kernel_rfl) rfl fun ρ wo hs' hb hc' => ?_
      have h24 : ρ (.tmp 24) = .int .u8 c10 := hs'.new' 24 21 (by kernel_rfl)
      go_simp
      exact Any.post_val hb rfl (congrArg (Value.int .i64) (IntWalk.i64_in _ (by omega)))
    · refine Any.owes_on rfl rfl (by kernel_rfl) rfl fun ρ wo hs' hb hc' => ?_
      have h25 : ρ (.tmp 25) = .int .i64 (c10) := hs'.new' 25 22 (by kernel_rfl)
      go_simp
      exact Any.post_val hb rfl (congrArg (Value.int .i64) (IntWalk.i64_in _ (by omega)))
    · refine Any.owes_on rfl rfl (by kernel_rfl) rfl fun ρ wo hs' hb hc' => ?_
      have h26 : ρ (.tmp 26) = .int .i64 (c10 - 48) := hs'.new' 26 23 (by kernel_rfl)
      go_simp
      exact Any.post_val hb rfl (congrArg (Value.int .i64) (IntWalk.i64_in _ (by omega)))
    · refine Any.owes_on rfl rfl (by kernel_rfl) rfl fun ρ wo hs' hb hc' => ?_
      have h0 : ρ (.tmp 0) = .string s := hs'.old' 0 (by kernel_rfl)
      exact Any.ok_move (Any.post_val hb rfl h0)
    · refine Any.owes_on rfl rfl (by kernel_rfl) rfl fun ρ wo hs' hb hc' => ?_
      have h28 : ρ (.tmp 28) = .string s := hs'.new' 28 25 (by kernel_rfl)
      have e0 : (11 : Int) < (s.size : Int) := by have := HSZ.out; omega
      have e1 : ((s[11]'(by have := HSZ.out; omega)).toNat : Int) = c11 := HC11.out
      go_simp
      exact Any.post_val hb rfl rfl
    · refine Any.owes_on rfl rfl (by kernel_rfl) rfl fun ρ wo hs' hb hc' => ?_
      have h29 : ρ (.tmp 29) = .int .u8 c11 := hs'.new' 29 26 (by kernel_rfl)
      go_simp
      exact Any.post_val hb rfl (congrArg (Value.int .i64) (IntWalk.i64_in _ (by omega)))
    · refine Any.owes_on rfl rfl (by kernel_rfl) rfl fun ρ wo hs' hb hc' => ?_
      have h27 : ρ (.tmp 27) = .int .i64 (10 * (c10 - 48)) := hs'.new' 27 24 (by kernel_rfl)
      have h30 : ρ (.tmp 30) = .int .i64 (c11) := hs'.new' 30 27 (by kernel_rfl)
      go_simp
      exact Any.post_val hb rfl (congrArg (Value.int .i64) (IntWalk.i64_in _ (by omega)))
    · refine Any.owes_on rfl rfl (by kernel_rfl) rfl fun ρ wo hs' hb hc' => ?_
      have h31 : ρ (.tmp 31) = .int .i64 (10 * (c10 - 48) + c11) := hs'.new' 31 28 (by kernel_rfl)
      go_simp
      exact Any.post_val hb rfl (congrArg (Value.int .i64) (IntWalk.i64_in _ (by omega)))
    · refine Any.owes_on rfl rfl (by kernel_rfl) rfl fun ρ wo hs' hb hc' => ?_
      have h22 : ρ (.tmp 22) = .int .i64 m := hs'.new' 22 19 (by kernel_rfl)
      have h32 : ρ (.tmp 32) = .int .i64 (10 * (c10 - 48) + c11 - 48) := hs'.new' 32 29 (by kernel_rfl)
      go_simp
      exact Any.post_val hb rfl (congrArg Value.bool HR.out)
    · refine Any.owes_plain rfl fun ρ wo hs' hb hc' => ?_
      have h20 : ρ (.tmp 20) = .bool true := hs'.new' 20 17 (by kernel_rfl)
      have h33 : ρ (.tmp 33) = .bool r := hs'.new' 33 30 (by kernel_rfl)
      go_simp
      exact Any.post_val hb rfl rfl
    · refine Any.owes_plain rfl fun ρ wo hs' hb hc' => ?_
      have h34 : ρ (.tmp 34) = .bool r := hs'.new' 34 31 (by kernel_rfl)
      exact Any.ok_assign (Any.post_val hb rfl h34)
  intro vals wz hb hk ha
  have h32 : vals 32 = .bool r := hk 32 (by kernel_rfl)
  have HBZ := Lib.hid hb
  clear hk ha hb
  simp only [Any.putAll]
  go_frame
  simp only [Nat.zero_add, Nat.reduceAdd]
  rw [h32]
  clear h32
  go_wp2_with fail
  go_ret
  exact retB HQ.out.symm HBZ.out
end Go.Proofs.YtgnfdplphpejaaaGreatDoor.Sc
