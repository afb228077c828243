/- Is a text a right mark: by the program. -/
import Derived.Test.YtbigoifpfkdkjaaGreatDoorTe22
import Derived.Test.YtbigoifpfkdkjaaGreatDoorTe01
import Derived.Test.YtbigoifpfkdkjaaGreatDoorTe23
import Derived.Test.YtbigoifpfkdkjaaGreatDoorTe05
import Derived.Lib.Builder
namespace Go.Proofs.YtbigoifpfkdkjaaGreatDoor.Sc
open Go Go.RowKit Go.ChangeShapes Go.WideShapes Go.ChangeAt
set_option maxRecDepth 100000

theorem chAt_is (s : ByteArray) (k : Nat) (h : k < s.size) : chAt (bt s) k = ((s[k]'h).toNat : Int) := by
  have hk : k < (bt s).length := by rw [bt_len]; exact h
  rw [chAt, List.getElem?_eq_getElem hk]
  have : (bt s)[k] = s[k]'h := by simp [bt, ByteArray.getElem_eq_getElem_data]
  rw [this]; rfl
theorem headN_false {s : List UInt8} : ∀ {n k : Nat}, k < n → signOk k (chAt s k) = false → headN s n = false
  | 0, k, h, _ => by omega
  | n + 1, k, h, h2 => by
    rw [headN]
    rcases Nat.lt_or_eq_of_le (Nat.lt_succ_iff.1 h) with h3 | h3
    · rw [headN_false h3 h2]; rfl
    · subst h3; rw [h2, Bool.and_false]
theorem signV_range {k : Nat} {c : Int} (h : signOk k c = true) : 0 ≤ signV k c ∧ signV k c ≤ 26 := by
  unfold signOk letter digit at h
  unfold signV
  split at h
  · rename_i h1
    rw [if_pos h1]
    simp only [Bool.and_eq_true, decide_eq_true_eq] at h
    omega
  · rename_i h1
    rw [if_neg h1]
    simp only [Bool.and_eq_true, decide_eq_true_eq] at h
    omega
theorem sumN_range {s : List UInt8} : ∀ {n : Nat}, n ≤ 10 → headN s n = true → 0 ≤ sumN s n ∧ sumN s n ≤ 260 * n
  | 0, _, _ => by simp [sumN]
  | n + 1, hn, h => by
    rw [headN, Bool.and_eq_true] at h
    have h1 := sumN_range (by omega) h.1
    have h2 := signV_range h.2
    rw [sumN]
    have h3 : 0 ≤ signV n (chAt s n) * ((n : Int) + 1) := Int.mul_nonneg h2.1 (by omega)
    have h4 : signV n (chAt s n) * ((n : Int) + 1) ≤ 26 * 10 := by
      refine Int.le_trans (Int.mul_le_mul_of_nonneg_right h2.2 (by omega)) ?_
      omega
    omega
set_option maxHeartbeats 4000000 in
theorem mkSum_any (s : ByteArray) (w : World) (hm : s.size ≤ 9223372036854775807) : Calls Tryz.prog 60 #[.string s] w (Ret w (.int .i64 (sumM (bt s)))) := by
  by_cases h10 : s.size < 10
  · have t1 : decide ((s.size : Int) < 10) = true := decide_eq_true (by omega)
    have HQ : Hid (sumM (bt s) = -1) := Lib.hid (by rw [sumM, if_neg]; rw [headB, bt_len, decide_eq_false (by omega)]; simp)
    clear h10
    go_enter Tryz.func60, Tryz.ntmps60
    go_wp2_with fail
    go_ret
    exact ⟨by rw [HQ.out]; rfl, Below.refl _ _⟩
  have t1 : decide ((s.size : Int) < 10) = false := decide_eq_false (by omega)
  have HSZ := Lib.hid (show 10 ≤ s.size by omega)
  have HV : Hid (sumM (bt s) = if headN (bt s) 10 = true then sumN (bt s) 10 % 97 else -1) := Lib.hid (by rw [sumM, headB, bt_len, decide_eq_true (by omega), Bool.true_and])
  clear h10
  go_enter Tryz.func60, Tryz.ntmps60
  go_wp2_with fail
  clear t1
  go_loopw [3, 9] (fun sm i wr => ∃ k : Nat, k ≤ 10 ∧ i = .int .i64 k ∧ sm = .int .i64 (sumN (bt s) k) ∧ headN (bt s) k = true ∧ Below w.heap.size w wr) (fun _ i _ => 10 - (intOf i).toNat)
  case atStart => exact ⟨0, by omega, rfl, rfl, rfl, Below.refl _ _⟩
  case round =>
    obtain ⟨k, hk, rfl, rfl, hhd, hbel⟩ := hrel
    have HBEL := Lib.hid hbel
    have HHD := Lib.hid hhd
    have HRG := Lib.hid (sumN_range hk hhd)
    clear hbel hhd
    by_cases hlt : k < 10
    · have hks : k < s.size := by have := HSZ.out; omega
      have HC := Lib.hid (chAt_is s k hks)
      have hc0 : (0 : Int) ≤ (s[k]'hks).toNat ∧ ((s[k]'hks).toNat : Int) ≤ 255 := by have := UInt8.toNat_lt (s[k]'hks); omega
      have HNX : Hid (headN (bt s) (k + 1) = signOk k (chAt (bt s) k) ∧ sumN (bt s) (k + 1) = sumN (bt s) k + signV k (chAt (bt s) k) * ((k : Int) + 1)) := Lib.hid ⟨by rw [headN, HHD.out, Bool.true_and], rfl⟩
      have HBAD : Hid (signOk k (chAt (bt s) k) = false → sumM (bt s) = -1) := Lib.hid (fun h => by rw [HV.out, if_neg]; rw [headN_false hlt h]; simp)
      have HL := letter_any ((s[k]'hks).toNat : Int)
      have HD := digit_any ((s[k]'hks).toNat : Int)
      have hlv : letter ((s[k]'hks).toNat : Int) = true → 97 ≤ ((s[k]'hks).toNat : Int) ∧ ((s[k]'hks).toNat : Int) ≤ 122 := fun h => by simpa [letter] using h
      have hdv : digit ((s[k]'hks).toNat : Int) = true → 48 ≤ ((s[k]'hks).toNat : Int) ∧ ((s[k]'hks).toNat : Int) ≤ 57 := fun h => by simpa [digit] using h
      rw [HC.out] at HNX HBAD
      have HS9 : Hid (0 ≤ sumN (bt s) k ∧ sumN (bt s) k ≤ 2600) := Lib.hid (by have := HRG.out; omega)
      generalize sumN (bt s) k = S at *
      generalize hcv : ((s[k]'hks).toNat : Int) = c at *
      by_cases h4 : k < 4
      · have t4 : decide ((k : Int) < 4) = true := decide_eq_true (by omega)
        have t4' : decide ((4 : Int) ≤ (k : Int)) = false := decide_eq_false (by omega)
        have e1 : signOk k c = letter c := if_pos h4
        have e2 : signV k c = c - 96 := if_pos h4
        rw [e1, e2] at HNX
        rw [e1] at HBAD
        generalize letter c = bl at *
        cases bl
        · have HQ := Lib.hid (HBAD.out rfl)
          clear hlv hdv HBAD HNX
          go_wp2_with (first
            | ((with_reducible refine (HL _).mono ?_); rintro e w2 ⟨rfl, hb2⟩; have HB2 := Lib.hid (HBEL.out.trans (hb2.mono HBEL.out.size)); clear hb2)
            | fail)
          go_ret
          exact ⟨by rw [HQ.out]; rfl, HB2.out⟩
        · have hcr := hlv rfl
          have HN := Lib.hid (And.intro HNX.out.1 HNX.out.2)
          have HK := Lib.hid (And.intro hk hlt)
          have u1 : IntKind.u8.wrap (c - 97) = c - 97 := IntWalk.u8_in _ (by omega)
          clear hlv hdv HBAD HNX
          go_wp2_with (first
            | ((with_reducible refine (HL _).mono ?_); rintro e w2 ⟨rfl, hb2⟩; have HB2 := Lib.hid (HBEL.out.trans (hb2.mono HBEL.out.size)); clear hb2)
            | fail)
          go_roundw
          case rel =>
            have q0 : 0 ≤ (c - 96) * ((k : Int) + 1) := Int.mul_nonneg (by omega) (by omega)
            have q1 : (c - 96) * ((k : Int) + 1) ≤ 26 * 10 := Int.le_trans (Int.mul_le_mul_of_nonneg_right (by omega) (by omega)) (Int.mul_le_mul_of_nonneg_left (by omega) (by omega))
            have q2 : wrap64 ((c - 97 + 1) * ((k : Int) + 1)) = (c - 96) * ((k : Int) + 1) := by rw [show c - 97 + 1 = c - 96 by omega]; exact IntWalk.wrap64_in _ (by omega)
            have q3 := HS9.out
            exact ⟨k + 1, by omega, by go_num, congrArg (Value.int .i64) (by rw [q2, HN.out.2]; exact IntWalk.wrap64_in _ (by omega)), HN.out.1, HB2.out⟩
          case measure => (simp [intOf]) <;> omega
      · have t4 : decide ((k : Int) < 4) = false := decide_eq_false (by omega)
        have t4' : decide ((4 : Int) ≤ (k : Int)) = true := decide_eq_true (by omega)
        have e1 : signOk k c = digit c := if_neg h4
        have e2 : signV k c = c - 48 := if_neg h4
        rw [e1, e2] at HNX
        rw [e1] at HBAD
        generalize digit c = bl at *
        cases bl
        · have HQ := Lib.hid (HBAD.out rfl)
          clear hlv hdv HBAD HNX
          go_wp2_with (first
            | ((with_reducible refine (HD _).mono ?_); rintro e w2 ⟨rfl, hb2⟩; have HB2 := Lib.hid (HBEL.out.trans (hb2.mono HBEL.out.size)); clear hb2)
            | fail)
          go_ret
          exact ⟨by rw [HQ.out]; rfl, HB2.out⟩
        · have hcr := hdv rfl
          have HN := Lib.hid (And.intro HNX.out.1 HNX.out.2)
          have u1 : IntKind.u8.wrap (c - 48) = c - 48 := IntWalk.u8_in _ (by omega)
          clear hlv hdv HBAD HNX
          go_wp2_with (first
            | ((with_reducible refine (HD _).mono ?_); rintro e w2 ⟨rfl, hb2⟩; have HB2 := Lib.hid (HBEL.out.trans (hb2.mono HBEL.out.size)); clear hb2)
            | fail)
          go_roundw
          case rel =>
            have q0 : 0 ≤ (c - 48) * ((k : Int) + 1) := Int.mul_nonneg (by omega) (by omega)
            have q1 : (c - 48) * ((k : Int) + 1) ≤ 26 * 10 := Int.le_trans (Int.mul_le_mul_of_nonneg_right (by omega) (by omega)) (Int.mul_le_mul_of_nonneg_left (by omega) (by omega))
            have q2 : wrap64 ((c - 48) * ((k : Int) + 1)) = (c - 48) * ((k : Int) + 1) := by exact IntWalk.wrap64_in _ (by omega)
            have q3 := HS9.out
            exact ⟨k + 1, by omega, by go_num, congrArg (Value.int .i64) (by rw [q2, HN.out.2]; exact IntWalk.wrap64_in _ (by omega)), HN.out.1, HB2.out⟩
          case measure => (simp [intOf]) <;> omega
    · have hk10 : k = 10 := by omega
      subst hk10
      have HQ : Hid (sumM (bt s) = sumN (bt s) 10 % 97) := Lib.hid (by rw [HV.out, if_pos HHD.out])
      have HRR := Lib.hid HRG.out
      generalize sumN (bt s) 10 = S at *
      have e1 : Int.tmod S 97 = S % 97 := Int.tmod_eq_emod_of_nonneg HRR.out.1
      clear hlt hk
      go_wp2_with fail
      go_ret
      exact ⟨by rw [HQ.out]; rfl, HBEL.out⟩
end Go.Proofs.YtbigoifpfkdkjaaGreatDoor.Sc
namespace Go.Proofs.YtbigoifpfkdkjaaGreatDoor.Sc
open Go Go.RowKit Go.ChangeShapes Go.WideShapes Go.ChangeAt Go.Shelf
set_option maxRecDepth 100000

/-- The table that the library's numerals are made with. -/
def TabW (w : World) : Prop := Lib.TabIs Tryz.prog w "internal/strconv.uint64pow10" .u64 Lib.pow10Tab
theorem TabW.below {w w' : World} (h : TabW w) (hb : Below w.heap.size w w') : TabW w' := by
  unfold TabW Lib.TabIs at *
  obtain ⟨g, hg⟩ : ∃ g, Tryz.prog.globalNamed "internal/strconv.uint64pow10" = some g := by
    cases hq : Tryz.prog.globalNamed "internal/strconv.uint64pow10" with
    | none => rw [World.var?, hq] at h; cases h
    | some g => exact ⟨g, rfl⟩
  refine var?_below hb hg ?_ h
  rcases Nat.lt_or_ge g w.heap.size with h1 | h1
  · exact h1
  · rw [World.var?, hg, Option.bind_some, Array.getElem?_eq_none h1] at h; cases h
theorem itoa_any (n : Int) (h0 : -9223372036854775808 ≤ n) (h1 : n ≤ 9223372036854775807) (w : World) (ht : TabW w) : Calls Tryz.prog 122 #[.int .i64 n] w (Ret w (.string (txt (Lib.itoa n)))) := by
  refine (Tryz.strconv_Itoa n h0 h1 w ht).mono ?_
  rintro e w' ⟨rfl, k, os, rfl⟩
  exact ⟨rfl, rfl, rfl, rfl, by simp, fun k hk => Go.Sort.heap_grow_old _ _ hk⟩
end Go.Proofs.YtbigoifpfkdkjaaGreatDoor.Sc
namespace Go.Proofs.YtbigoifpfkdkjaaGreatDoor.Sc
open Go Go.RowKit Go.ChangeShapes Go.WideShapes Go.ChangeAt Go.Shelf
set_option maxRecDepth 100000

set_option maxHeartbeats 4000000 in
theorem mkDigits_any (k n : Nat) (hn : n < 10 ^ k) (hk1 : 1 ≤ k) (hk2 : k ≤ 6) (w : World) (ht : TabW w) : Calls Tryz.prog 59 #[.int .i64 n, .int .i64 k] w (Ret w (.string (txt (digK k n)))) := by
  have hnb : n < 1000000 := Nat.lt_of_lt_of_le hn (Nat.pow_le_pow_right (by decide) hk2)
  obtain ⟨hlen, hpad⟩ := dec_digK k n hn hk1
  have HI := Lib.hid (itoa_any (n : Int) (by omega) (by omega) w ht)
  rw [show Lib.itoa (n : Int) = Lib.decDigits n from by rw [Lib.itoa, if_neg (by omega)]; rfl] at HI
  have HP := Lib.hid hpad
  have HL := Lib.hid hlen
  generalize Lib.decDigits n = D at *
  generalize digK k n = E at *
  clear hn ht hpad hlen
  go_enter Tryz.func59, Tryz.ntmps59
  go_wp2_with (first
    | ((with_reducible refine HI.out.mono ?_); rintro e w2 ⟨rfl, hb2⟩; have HB2 := Lib.hid hb2; clear hb2)
    | fail)
  go_loopw [5] (fun s wr => ∃ j : Nat, j + D.length ≤ k ∧ s = .string (txt (List.replicate j 48 ++ D)) ∧ Below w.heap.size w wr) (fun s _ => k - (match s with | .string b => b.size | _ => 0))
  case atStart => exact ⟨0, by have := HL.out; omega, rfl, HB2.out⟩
  case round =>
    obtain ⟨j, hj, rfl, hbel⟩ := hrel
    have HBEL := Lib.hid hbel
    have hsz : (txt (List.replicate j 48 ++ D)).size = j + D.length := by rw [txt_size, List.length_append, List.length_replicate]
    by_cases hlt : j + D.length < k
    · have t1 : decide (((txt (List.replicate j 48 ++ D)).size : Int) < (k : Int)) = true := decide_eq_true (by rw [hsz]; omega)
      have t1' : decide ((txt (List.replicate j 48 ++ D)).size < k) = true := decide_eq_true (by rw [hsz]; omega)
      have hq : ¬ 9223372036854775807 < (⟨#[48]⟩ : ByteArray).size + (txt (List.replicate j 48 ++ D)).size := by rw [hsz]; show ¬ 9223372036854775807 < 1 + _; omega
      have HE : Hid ((⟨#[48]⟩ : ByteArray) ++ txt (List.replicate j 48 ++ D) = txt (List.replicate (j + 1) 48 ++ D)) := Lib.hid (by rw [show (⟨#[48]⟩ : ByteArray) = txt [48] from rfl, txt_append]; rfl)
      have HS := Lib.hid hsz
      have HS2 : Hid ((txt (List.replicate (j + 1) 48 ++ D)).size = j + 1 + D.length) := Lib.hid (by rw [txt_size, List.length_append, List.length_replicate])
      generalize txt (List.replicate j 48 ++ D) = T at *
      clear hsz hbel
      go_wp2_with fail
      go_roundw
      case rel => exact ⟨j + 1, by omega, congrArg Value.string HE.out, HBEL.out⟩
      case measure =>
        rw [HE.out]
        have h1 := HS.out
        have h2 := HS2.out
        simp only
        omega
    · have t1 : decide (((txt (List.replicate j 48 ++ D)).size : Int) < (k : Int)) = false := decide_eq_false (by rw [hsz]; omega)
      have t1' : decide ((txt (List.replicate j 48 ++ D)).size < k) = false := decide_eq_false (by rw [hsz]; omega)
      have HE : Hid (txt (List.replicate j 48 ++ D) = txt E) := Lib.hid (by rw [← HP.out, show k - D.length = j by have := HL.out; omega])
      generalize txt (List.replicate j 48 ++ D) = T at *
      clear hsz hbel
      go_wp2_with fail
      go_ret
      exact ⟨by rw [HE.out]; rfl, HBEL.out⟩
def MakeP (w : World) (own : ByteArray) (n : Int) (e : Ending) (w' : World) : Prop := e = .returned (.tuple #[.string (if makeC (bt own) n = 0 then txt (markB (bt own) n.toNat) else ⟨#[]⟩), .int .i64 (makeC (bt own) n)]) ∧ Below w.heap.size w w'
theorem owner_step {s : ByteArray} {k : Nat} (h : k < s.size) : ((bt s).drop k).all (fun c => letter (c.toNat : Int)) = (letter ((s[k]'h).toNat : Int) && ((bt s).drop (k + 1)).all fun c => letter (c.toNat : Int)) := by
  have hk : k < (bt s).length := by rw [bt_len]; exact h
  rw [List.drop_eq_getElem_cons hk, List.all_cons]
  have : (bt s)[k] = s[k]'h := by simp [bt, ByteArray.getElem_eq_getElem_data]
  rw [this]
set_option maxHeartbeats 8000000 in
theorem mkMake_any (own : ByteArray) (n : Int) (w : World) (ht : TabW w) : Calls Tryz.prog 15 #[.string own, .int .i64 n] w (MakeP w own n) := by
  by_cases h4 : own.size = 4
  rotate_left
  · have t2 : ((own.size : Int) != 4) = true := by simp; omega
    have HQ : Hid (makeC (bt own) n = 1) := Lib.hid (by rw [makeC, if_neg]; rw [ownerOk, bt_len, decide_eq_false h4]; exact Bool.false_ne_true)
    clear h4
    go_enter Tryz.func15, Tryz.ntmps15
    go_wp2_with fail
    go_ret2
    exact ⟨by rw [HQ.out]; rfl, Below.refl _ _⟩
  have t2 : ((own.size : Int) != 4) = false := by simp; omega
  have HV : Hid (ownerOk (bt own) = ((bt own).drop 0).all fun c => letter (c.toNat : Int)) := Lib.hid (by rw [ownerOk, bt_len, decide_eq_true h4]; rfl)
  have HSZ := Lib.hid h4
  have HT := Lib.hid ht
  clear h4 ht
  go_enter Tryz.func15, Tryz.ntmps15
  go_wp2_with fail
  clear t2
  go_loopw [11] (fun i wr => ∃ k : Nat, k ≤ 4 ∧ i = .int .i64 k ∧ ownerOk (bt own) = (((bt own).drop k).all fun c => letter (c.toNat : Int)) ∧ Below w.heap.size w wr) (fun i _ => 4 - (intOf i).toNat)
  case atStart => exact ⟨0, by omega, rfl, HV.out, Below.refl _ _⟩
  case round =>
    obtain ⟨k, hk, rfl, hq, hbel⟩ := hrel
    have HBEL := Lib.hid hbel
    clear hbel
    by_cases hlt : k < 4
    · have hks : k < own.size := by have := HSZ.out; omega
      rw [owner_step hks] at hq
      have HL := letter_any ((own[k]'hks).toNat : Int)
      generalize letter ((own[k]'hks).toNat : Int) = r at *
      cases r
      · have HQ : Hid (makeC (bt own) n = 1) := Lib.hid (by rw [makeC, if_neg]; rw [hq]; exact Bool.false_ne_true)
        clear hq
        go_wp2_with (first
          | ((with_reducible refine (HL _).mono ?_); rintro e w2 ⟨rfl, hb2⟩; have HB2 := Lib.hid (HBEL.out.trans (hb2.mono HBEL.out.size)); clear hb2)
          | fail)
        go_ret2
        exact ⟨by rw [HQ.out]; rfl, HB2.out⟩
      · have HN : Hid (ownerOk (bt own) = (((bt own).drop (k + 1)).all fun c => letter (c.toNat : Int))) := Lib.hid (by rw [hq, Bool.true_and])
        clear hq
        go_wp2_with (first
          | ((with_reducible refine (HL _).mono ?_); rintro e w2 ⟨rfl, hb2⟩; have HB2 := Lib.hid (HBEL.out.trans (hb2.mono HBEL.out.size)); clear hb2)
          | fail)
        go_roundw
        case rel => exact ⟨k + 1, by omega, by go_num, HN.out, HB2.out⟩
        case measure => (simp [intOf]) <;> omega
    · have hown : ownerOk (bt own) = true := by rw [hq, List.drop_eq_nil_of_le (by rw [bt_len]; have := HSZ.out; omega)]; rfl
      clear hq
      by_cases h0 : n < 0
      · have t0 : decide (n < 0) = true := decide_eq_true h0
        have HQ : Hid (makeC (bt own) n = 3) := Lib.hid (by rw [makeC, if_pos hown, if_neg (by omega)])
        clear h0 hown
        go_wp2_with fail
        go_ret2
        exact ⟨by rw [HQ.out]; rfl, HBEL.out⟩
      have t0 : decide (n < 0) = false := decide_eq_false h0
      by_cases h1 : 999999 < n
      · have t1 : decide (999999 < n) = true := decide_eq_true h1
        have HQ : Hid (makeC (bt own) n = 3) := Lib.hid (by rw [makeC, if_pos hown, if_neg (by omega)])
        clear h0 h1 hown
        go_wp2_with fail
        go_ret2
        exact ⟨by rw [HQ.out]; rfl, HBEL.out⟩
      have t1 : decide (999999 < n) = false := decide_eq_false h1
      have HQ : Hid (makeC (bt own) n = 0) := Lib.hid (by rw [makeC, if_pos hown, if_pos (by omega)])
      obtain ⟨m, rfl⟩ : ∃ m : Nat, n = (m : Int) := ⟨n.toNat, by omega⟩
      obtain ⟨hhd, hl10⟩ := head_made (n := m) hown
      have hsm : 0 ≤ sumM (bt own ++ digK 6 m) ∧ sumM (bt own ++ digK 6 m) < 97 := by rw [sumM, if_pos hhd]; omega
      obtain ⟨c, hc⟩ : ∃ c : Nat, sumM (bt own ++ digK 6 m) = (c : Int) := ⟨(sumM (bt own ++ digK 6 m)).toNat, by omega⟩
      have HD6 : Hid (∀ W, Below w.heap.size w W → Calls Tryz.prog 59 #[.int .i64 m, .int .i64 6] W (Ret W (.string (txt (digK 6 m))))) := Lib.hid (fun W (hW : Below w.heap.size w W) => mkDigits_any 6 m (by omega) (by omega) (by omega) W (HT.out.below hW))
      have HD2 : Hid (∀ W, Below w.heap.size w W → Calls Tryz.prog 59 #[.int .i64 c, .int .i64 2] W (Ret W (.string (txt (digK 2 c))))) := Lib.hid (fun W (hW : Below w.heap.size w W) => mkDigits_any 2 c (by omega) (by omega) (by omega) W (HT.out.below hW))
      have hst : (own ++ txt (digK 6 m) : ByteArray) = txt (bt own ++ digK 6 m) := by rw [← txt_append, txt_bt]
      have HSM := Lib.hid (fun W => mkSum_any (own ++ txt (digK 6 m)) W (by rw [hst, txt_size]; omega))
      rw [hst, bt_txt, hc] at HSM
      have HST := Lib.hid hst
      have HM : Hid (txt (markB (bt own) m) = txt (bt own ++ digK 6 m) ++ txt (digK 2 c)) := Lib.hid (by rw [markB, hc, txt_append]; rfl)
      have hq1 : ¬ 9223372036854775807 < own.size + (txt (digK 6 m)).size := by rw [txt_size, digK_len]; have := HSZ.out; omega
      have hq2 : ¬ 9223372036854775807 < (txt (bt own ++ digK 6 m)).size + (txt (digK 2 c)).size := by rw [txt_size, txt_size, digK_len]; omega
      clear h0 h1 hown hhd hl10 hsm hc
      generalize txt (digK 6 m) = T6 at *
      generalize txt (bt own ++ digK 6 m) = TS at *
      generalize txt (digK 2 c) = T2 at *
      subst hst
      go_wp2_with (first
        | ((with_reducible refine (HD6.out _ HBEL.out).mono ?_); rintro e w3 ⟨rfl, hb3⟩; have HB3 := Lib.hid (HBEL.out.trans (hb3.mono HBEL.out.size)); clear hb3)
        | ((with_reducible refine (HSM.out _).mono ?_); rintro e w4 ⟨rfl, hb4⟩; have HB4 := Lib.hid (HB3.out.trans (hb4.mono HB3.out.size)); clear hb4)
        | ((with_reducible refine (HD2.out _ HB4.out).mono ?_); rintro e w5 ⟨rfl, hb5⟩; have HB5 := Lib.hid (HB4.out.trans (hb5.mono HB4.out.size)); clear hb5)
        | fail)
      go_ret2
      exact ⟨by rw [HQ.out, if_pos rfl, Int.toNat_natCast, HM.out]; rfl, HB5.out⟩
end Go.Proofs.YtbigoifpfkdkjaaGreatDoor.Sc
namespace Go.Proofs.YtbigoifpfkdkjaaGreatDoor.Sc
open Go Go.RowKit Go.ChangeShapes Go.WideShapes Go.ChangeAt Go.Shelf
set_option maxRecDepth 100000

theorem bt_extract (s : ByteArray) (k : Nat) : bt (s.extract k s.size) = (bt s).drop k := by
  simp only [bt, ByteArray.data_extract, Array.toList_extract, List.extract_eq_take_drop]
  rw [List.take_of_length_le]
  rw [List.length_drop, Array.length_toList]
  exact Nat.le_refl _
set_option maxHeartbeats 4000000 in
theorem mkRight_any (s : ByteArray) (w : World) (ht : TabW w) : Calls Tryz.prog 33 #[.string s] w (RetB w (markOk (bt s))) := by
  by_cases h12 : s.size = 12
  rotate_left
  · have t2 : ((s.size : Int) != 12) = true := by simp; omega
    have HQ : Hid (markOk (bt s) = false) := Lib.hid (by rw [markOk, bt_len, decide_eq_false h12]; rfl)
    clear h12
    go_enter Tryz.func33, Tryz.ntmps33
    go_wp2_with fail
    go_ret
    exact retB HQ.out.symm (Below.refl _ _)
  have t2 : ((s.size : Int) != 12) = false := by simp; omega
  have HSZ := Lib.hid h12
  have HV : Hid (markOk (bt s) = (headB (bt s) && decide ((bt s).drop 10 = digK 2 (sumM (bt s)).toNat))) := Lib.hid (by rw [markOk, bt_len, decide_eq_true h12, Bool.true_and])
  have HSM := Lib.hid (mkSum_any s w (by omega))
  have HT := Lib.hid ht
  have hsm : sumM (bt s) = if headB (bt s) = true then sumN (bt s) 10 % 97 else -1 := rfl
  clear h12 ht
  generalize headB (bt s) = r1 at *
  cases r1
  · have hc : sumM (bt s) = -1 := hsm
    have HQ : Hid (markOk (bt s) = false) := Lib.hid (by rw [HV.out]; rfl)
    obtain ⟨c, hcc⟩ : ∃ c : Int, c = -1 := ⟨_, rfl⟩
    have t3 : decide ((0 : Int) ≤ c) = false := decide_eq_false (by omega)
    rw [hc, ← hcc] at HSM
    clear hsm hc hcc HV
    go_enter Tryz.func33, Tryz.ntmps33
    go_wp2_with (first
      | ((with_reducible refine HSM.out.mono ?_); rintro e w2 ⟨rfl, hb2⟩; have HB := Lib.hid hb2; clear hb2)
      | fail)
    refine Any.region_lit (fun
      | 0 => Any.val (.int .i64 c)
      | 1 => Any.val (.bool false)
      | 2 => Any.val (.bool false)
      | 3 => Any.idle
      | 4 => Any.idle
      | 5 => Any.idle
      | 6 => Any.idle
      | 7 => Any.idle
      | 8 => Any.val (.bool false)
      | 9 => Any.val (.bool false)
      | _ => Any.idle) (by kernel_rfl) (by kernel_rfl) (by kernel_rfl) ?_ ?_ ?_
    · intro i _
      match i with
      | 0 => exact Any.lasts_val _
      | 1 => exact Any.lasts_val _
      | 2 => exact Any.lasts_val _
      | 3 => exact Any.lasts_idle
      | 4 => exact Any.lasts_idle
      | 5 => exact Any.lasts_idle
      | 6 => exact Any.lasts_idle
      | 7 => exact Any.lasts_idle
      | 8 => exact Any.lasts_val _
      | 9 => exact Any.lasts_val _
      | n + 10 => exact Any.lasts_idle
    · refine ⟨?_, ?_, ?_, ?_, ?_, ?_, ?_, ?_, ?_, ?_, trivial⟩
      · refine Any.owes_plain rfl fun ρ wo hs' hb hc' => ?_
        have h3 : ρ (.tmp 3) = .int .i64 c := hs'.old' 3 (by kernel_rfl)
        exact Any.ok_move (Any.post_val hb rfl h3)
      · refine Any.owes_plain rfl fun ρ wo hs' hb hc' => ?_
        have h9 : ρ (.tmp 9) = .int .i64 c := hs'.new' 9 0 (by kernel_rfl)
        go_simp
        exact Any.post_val hb rfl rfl
      · refine Any.owes_plain rfl fun ρ wo hs' hb hc' => ?_
        have h10 : ρ (.tmp 10) = .bool false := hs'.new' 10 1 (by kernel_rfl)
        exact Any.ok_move (Any.post_val hb rfl h10)
      · exact Any.owes_off rfl rfl (by kernel_rfl) rfl (by decide) rfl
      · exact Any.owes_off rfl rfl (by kernel_rfl) rfl (by decide) rfl
      · exact Any.owes_off rfl rfl (by kernel_rfl) rfl (by decide) rfl
      · exact Any.owes_off rfl rfl (by kernel_rfl) rfl (by decide) rfl
      · exact Any.owes_off rfl rfl (by kernel_rfl) rfl (by decide) rfl
      · refine Any.owes_plain rfl fun ρ wo hs' hb hc' => ?_
        have h11 : ρ (.tmp 11) = .bool false := hs'.new' 11 2 (by kernel_rfl)
        go_simp
        exact Any.post_val hb rfl rfl
      · refine Any.owes_plain rfl fun ρ wo hs' hb hc' => ?_
        have h17 : ρ (.tmp 17) = .bool false := hs'.new' 17 8 (by kernel_rfl)
        exact Any.ok_assign (Any.post_val hb rfl h17)
    intro vals wz hb hk ha
    have h9 : vals 9 = .bool false := hk 9 (by kernel_rfl)
    have HBZ := Lib.hid (HB.out.trans (hb.mono HB.out.size))
    clear hk ha hb
    simp only [Any.putAll]
    go_frame
    simp only [Nat.zero_add, Nat.reduceAdd]
    rw [h9]
    clear h9
    go_wp2_with fail
    go_ret
    exact retB HQ.out.symm HBZ.out
  · have hc : 0 ≤ sumM (bt s) ∧ sumM (bt s) < 97 := by rw [hsm, if_pos rfl]; omega
    obtain ⟨r, hr⟩ : ∃ r, r = decide ((bt s).drop 10 = digK 2 (sumM (bt s)).toNat) := ⟨_, rfl⟩
    have HQ : Hid (markOk (bt s) = r) := Lib.hid (by rw [HV.out, hr]; rfl)
    obtain ⟨tl, htl⟩ : ∃ tl, tl = s.extract 10 s.size := ⟨_, rfl⟩
    have hbl : bt tl = (bt s).drop 10 := by rw [htl, bt_extract]
    generalize sumM (bt s) = cc at *
    obtain ⟨m, rfl⟩ : ∃ m : Nat, cc = (m : Int) := ⟨cc.toNat, by omega⟩
    obtain ⟨c, hcm⟩ : ∃ c : Int, c = (m : Int) := ⟨_, rfl⟩
    have HD2 : Hid (∀ W, Below w.heap.size w W → Calls Tryz.prog 59 #[.int .i64 c, .int .i64 2] W (Ret W (.string (txt (digK 2 m))))) := Lib.hid (fun W hW => by rw [hcm]; exact mkDigits_any 2 m (by omega) (by omega) (by omega) W (HT.out.below hW))
    obtain ⟨t2, ht2⟩ : ∃ t, t = txt (digK 2 m) := ⟨_, rfl⟩
    have HEQ : Hid ((tl.toList == t2.toList) = r) := Lib.hid (by
      rw [hr, str_beq, ht2]
      have hb := hbl
      rw [Int.toNat_natCast, ← hb]
      by_cases h : tl = txt (digK 2 m)
      · rw [decide_eq_true h, decide_eq_true (by rw [h, bt_txt])]
      · rw [decide_eq_false h, decide_eq_false (fun e => h (by rw [← txt_bt tl, e]))])
    have HTL : Hid (s.extract 10 s.size = tl) := Lib.hid htl.symm
    rw [← hcm] at HSM
    rw [← ht2] at HD2
    have t3 : decide ((0 : Int) ≤ c) = true := decide_eq_true (by omega)
    clear hsm hc HV hr hbl htl ht2 hcm
    go_enter Tryz.func33, Tryz.ntmps33
    go_wp2_with (first
      | ((with_reducible refine HSM.out.mono ?_); rintro e w2 ⟨rfl, hb2⟩; have HB := Lib.hid hb2; clear hb2)
      | fail)
    refine Any.region_lit (fun
      | 0 => Any.val (.int .i64 c)
      | 1 => Any.val (.bool true)
      | 2 => Any.val (.bool true)
      | 3 => Any.val (.string s)
      | 4 => Any.val (.string tl)
      | 5 => Any.val (.int .i64 c)
      | 6 => Any.val (.string t2)
      | 7 => Any.val (.bool r)
      | 8 => Any.val (.bool r)
      | 9 => Any.val (.bool r)
      | _ => Any.idle) (by kernel_rfl) (by kernel_rfl) (by kernel_rfl) ?_ ?_ ?_
    · intro i _
      match i with
      | 0 => exact Any.lasts_val _
      | 1 => exact Any.lasts_val _
      | 2 => exact Any.lasts_val _
      | 3 => exact Any.lasts_val _
      | 4 => exact Any.lasts_val _
      | 5 => exact Any.lasts_val _
      | 6 => exact Any.lasts_val _
      | 7 => exact Any.lasts_val _
      | 8 => exact Any.lasts_val _
      | 9 => exact Any.lasts_val _
      | n + 10 => exact Any.lasts_idle
    · refine ⟨?_, ?_, ?_, ?_, ?_, ?_, ?_, ?_, ?_, ?_, trivial⟩
      · refine Any.owes_plain rfl fun ρ wo hs' hb hc' => ?_
        have h3 : ρ (.tmp 3) = .int .i64 c := hs'.old' 3 (by kernel_rfl)
        exact Any.ok_move (Any.post_val hb rfl h3)
      · refine Any.owes_plain rfl fun ρ wo hs' hb hc' => ?_
        have h9 : ρ (.tmp 9) = .int .i64 c := hs'.new' 9 0 (by kernel_rfl)
        go_simp
        exact Any.post_val hb rfl rfl
      · refine Any.owes_plain rfl fun ρ wo hs' hb hc' => ?_
        have h10 : ρ (.tmp 10) = .bool true := hs'.new' 10 1 (by kernel_rfl)
        exact Any.ok_move (Any.post_val hb rfl h10)
      · refine Any.owes_on rfl rfl (by kernel_rfl) rfl fun ρ wo hs' hb hc' => ?_
        have h0 : ρ (.tmp 0) = .string s := hs'.old' 0 (by kernel_rfl)
        exact Any.ok_move (Any.post_val hb rfl h0)
      · refine Any.owes_on rfl rfl (by kernel_rfl) rfl fun ρ wo hs' hb hc' => ?_
        have h12 : ρ (.tmp 12) = .string s := hs'.new' 12 3 (by kernel_rfl)
        have e0 : (10 : Int) ≤ (s.size : Int) := by have := HSZ.out; omega
        go_simp
        exact Any.post_val hb rfl (congrArg Value.string HTL.out)
      · refine Any.owes_on rfl rfl (by kernel_rfl) rfl fun ρ wo hs' hb hc' => ?_
        have h3 : ρ (.tmp 3) = .int .i64 c := hs'.old' 3 (by kernel_rfl)
        exact Any.ok_move (Any.post_val hb rfl h3)
      · refine Any.owes_on rfl rfl (by kernel_rfl) rfl fun ρ wo hs' hb hc' => ?_
        have h14 : ρ (.tmp 14) = .int .i64 c := hs'.new' 14 5 (by kernel_rfl)
        have hf := hs'.func 59
        go_simp
        exact (HD2.out wo (HB.out.trans ((below_undrew hb).mono HB.out.size))).mono fun e w' ⟨he, hb'⟩ => ⟨_, he, Any.post_vals hb rfl rfl hb'⟩
      · refine Any.owes_on rfl rfl (by kernel_rfl) rfl fun ρ wo hs' hb hc' => ?_
        have h13 : ρ (.tmp 13) = .string tl := hs'.new' 13 4 (by kernel_rfl)
        have h15 : ρ (.tmp 15) = .string t2 := hs'.new' 15 6 (by kernel_rfl)
        go_simp
        exact Any.post_val hb rfl (congrArg Value.bool HEQ.out)
      · refine Any.owes_plain rfl fun ρ wo hs' hb hc' => ?_
        have h11 : ρ (.tmp 11) = .bool true := hs'.new' 11 2 (by kernel_rfl)
        have h16 : ρ (.tmp 16) = .bool r := hs'.new' 16 7 (by kernel_rfl)
        go_simp
        exact Any.post_val hb rfl rfl
      · refine Any.owes_plain rfl fun ρ wo hs' hb hc' => ?_
        have h17 : ρ (.tmp 17) = .bool r := hs'.new' 17 8 (by kernel_rfl)
        exact Any.ok_assign (Any.post_val hb rfl h17)
    intro vals wz hb hk ha
    have h9 : vals 9 = .bool r := hk 9 (by kernel_rfl)
    have HBZ := Lib.hid (HB.out.trans (hb.mono HB.out.size))
    clear hk ha hb
    simp only [Any.putAll]
    go_frame
    simp only [Nat.zero_add, Nat.reduceAdd]
    rw [h9]
    clear h9
    go_wp2_with fail
    go_ret
    exact retB HQ.out.symm HBZ.out
end Go.Proofs.YtbigoifpfkdkjaaGreatDoor.Sc
