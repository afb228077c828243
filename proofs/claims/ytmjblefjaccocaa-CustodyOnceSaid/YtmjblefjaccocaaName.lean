/- Names and days: the program's words and the document's are one. -/
import Derived.Test.YtmjblefjaccocaaLaw
namespace Go.Proofs.Ytmjblefjaccocaa.Sc
open Go Go.RowKit Go.ChangeShapes Go.WideShapes Go.ChangeAt

/-- Texts compared. -/
theorem str_beq (a b : ByteArray) : (a.toList == b.toList) = decide (a = b) := by
  by_cases h : a = b
  · subst h; simp
  · rw [decide_eq_false h]
    cases hb : a.toList == b.toList with
    | false => rfl
    | true => exact absurd (bytes_inj (by rw [← ByteArray.toList_eq, ← ByteArray.toList_eq]; exact eq_of_beq hb)) h
theorem str_yes {a b : ByteArray} (h : a = b) : (a.toList == b.toList) = true := by rw [str_beq, decide_eq_true h]
theorem str_no {a b : ByteArray} (h : ¬ a = b) : (a.toList == b.toList) = false := by rw [str_beq, decide_eq_false h]

def chI (c : Int) : Bool := !((decide (c < 97) || decide (122 < c)) && ((decide (c < 48) || decide (57 < c)) && c != 45))
def chOk (b : UInt8) : Bool := chI (b.toNat : Int)
def charsOk (l : List UInt8) : Bool := l.all chOk
def nameOk (s : ByteArray) : Bool := decide (1 ≤ s.size) && (decide (s.size ≤ 16) && charsOk s.data.toList)
def dayOk (d : Int) : Bool := decide (0 ≤ d) && decide (d ≤ 1048576)

theorem isDay_any (d : Int) (w : World) : Calls Try.prog 35 #[.int .i64 d] w (RetB w (dayOk d)) := by
  go_enter Try.func35, Try.ntmps35
  go_wp2
  all_goals
    go_ret
    exact retB (by rw [Bool.eq_iff_iff]; simp only [dayOk, Bool.and_eq_true, decide_eq_true_eq, Bool.false_eq_true, false_iff]; omega) (Below.refl _ _)
theorem refDay_any (d : Int) (w : World) : Calls Try.prog 38 #[.int .i64 d] w (RetB w (dayOk d)) := by
  go_enter Try.func38, Try.ntmps38
  go_wp2
  all_goals
    go_ret
    exact retB (by rw [Bool.eq_iff_iff]; simp only [dayOk, Bool.and_eq_true, decide_eq_true_eq, Bool.false_eq_true, false_iff]; omega) (Below.refl _ _)

theorem chars_step (s : ByteArray) (k : Nat) (h : k < s.size) : charsOk (s.data.toList.drop k) = (chI ((s[k]'h).toNat : Int) && charsOk (s.data.toList.drop (k + 1))) := by
  have hk : k < s.data.toList.length := by rw [Array.length_toList]; exact h
  rw [List.drop_eq_getElem_cons hk]
  have : s.data.toList[k] = s[k]'h := by simp [ByteArray.getElem_eq_getElem_data]
  rw [this]; rfl
theorem chars_end (s : ByteArray) (k : Nat) (h : s.size ≤ k) : charsOk (s.data.toList.drop k) = true := by
  rw [List.drop_eq_nil_of_le (by rw [Array.length_toList]; exact h)]; rfl

set_option maxHeartbeats 1000000 in
theorem isName_any (s : ByteArray) (w : World) : Calls Try.prog 42 #[.string s] w (RetB w (nameOk s)) := by
  by_cases hn : 1 ≤ s.size ∧ s.size ≤ 16
  · obtain ⟨h1, h2⟩ := hn
    have t1 : decide ((s.size : Int) < 1) = false := by simp; omega
    have t2 : decide ((16 : Int) < (s.size : Int)) = false := by simp; omega
    have HN : Hid (nameOk s = charsOk (s.data.toList.drop 0)) := Lib.hid (by simp [nameOk, h1, h2])
    go_enter Try.func42, Try.ntmps42
    go_wp2
    go_loopw [15] (fun i wr => ∃ k : Nat, k ≤ s.size ∧ i = .int .i64 k ∧ nameOk s = charsOk (s.data.toList.drop k) ∧ Below w.heap.size w wr) (fun i _ => s.size - (intOf i).toNat)
    case atStart => exact ⟨0, Nat.zero_le _, rfl, HN.out, Below.refl _ _⟩
    case round =>
      obtain ⟨k, hk, rfl, hrel, hbel⟩ := hrel
      by_cases hlt : k < s.size
      · rw [chars_step s k hlt] at hrel
        have HR := Lib.hid hrel
        clear hrel t1 t2 h1
        go_wp2
        all_goals first
          | (go_roundw
             case rel => exact ⟨k + 1, by omega, by go_num, by
                have hc : chI ((s[k]'hlt).toNat : Int) = true := by
                  generalize ((s[k]'hlt).toNat : Int) = c at *
                  simp [chI] at *; omega
                rw [HR.out, hc, Bool.true_and], hbel⟩
             case measure => simp [intOf]; omega)
          | (go_ret
             exact retB (by
                have hc : chI ((s[k]'hlt).toNat : Int) = false := by
                  generalize ((s[k]'hlt).toNat : Int) = c at *
                  simp [chI] at *; omega
                rw [HR.out, hc, Bool.false_and]) hbel)
      · have HR := Lib.hid hrel
        clear hrel
        go_wp2
        go_ret
        exact retB (by rw [HR.out, chars_end s k (by omega)]) hbel
  · have HN : Hid (nameOk s = false) := Lib.hid (by
      simp only [nameOk]
      by_cases h1 : 1 ≤ s.size
      · have h2 : ¬ s.size ≤ 16 := fun h => hn ⟨h1, h⟩
        simp only [h2, decide_false, Bool.false_and, Bool.and_false]
      · simp only [h1, decide_false, Bool.false_and])
    go_enter Try.func42, Try.ntmps42
    by_cases h1 : 1 ≤ s.size
    · have t1 : decide ((s.size : Int) < 1) = false := by simp; omega
      have t2 : decide ((16 : Int) < (s.size : Int)) = true := by simp; omega
      clear hn
      go_wp2
      go_ret
      exact retB HN.out.symm (Below.refl _ _)
    · have t1 : decide ((s.size : Int) < 1) = true := by simp; omega
      clear hn
      go_wp2
      go_ret
      exact retB HN.out.symm (Below.refl _ _)

set_option maxHeartbeats 1000000 in
theorem refName5_any (s : ByteArray) (w : World) (hm : s.size ≤ 9223372036854775807) : Calls Try.prog 43 #[.string s] w (RetB w (nameOk s)) := by
  go_enter Try.func43, Try.ntmps43
  go_wp2
  go_loopw [3] (fun i wr => ∃ k : Nat, k ≤ s.size ∧ i = .int .i64 k ∧ charsOk s.data.toList = charsOk (s.data.toList.drop k) ∧ Below w.heap.size w wr) (fun i _ => s.size - (intOf i).toNat)
  case atStart => exact ⟨0, Nat.zero_le _, rfl, rfl, Below.refl _ _⟩
  case round =>
    obtain ⟨k, hk, rfl, hrel, hbel⟩ := hrel
    by_cases hlt : k < s.size
    · rw [chars_step s k hlt] at hrel
      have HR := Lib.hid hrel
      clear hrel
      go_wp2
      all_goals first
        | (go_roundw
           case rel => exact ⟨k + 1, by omega, by go_num, by
              have hc : chI ((s[k]'hlt).toNat : Int) = true := by
                generalize ((s[k]'hlt).toNat : Int) = c at *
                simp [chI] at *; omega
              rw [HR.out, hc, Bool.true_and], hbel⟩
           case measure => simp [intOf]; omega)
        | (go_ret
           exact retB (by
              have hc : chI ((s[k]'hlt).toNat : Int) = false := by
                generalize ((s[k]'hlt).toNat : Int) = c at *
                simp [chI] at *; omega
              rw [nameOk, HR.out, hc, Bool.false_and, Bool.and_false, Bool.and_false]) hbel)
    · have HR := Lib.hid hrel
      clear hrel
      go_wp2
      all_goals
        go_ret
        exact retB (by rw [nameOk, HR.out, chars_end s k (by omega), Bool.and_true, Bool.eq_iff_iff]; simp only [Bool.and_eq_true, decide_eq_true_eq, Bool.false_eq_true, false_iff]; omega) hbel
theorem refName_any (s : ByteArray) (w : World) (hm : s.size ≤ 9223372036854775807) : Calls Try.prog 37 #[.string s] w (RetB w (nameOk s)) := by
  go_enter Try.func37, Try.ntmps37
  go_wp2_with fail
  refine (refName5_any s w hm).mono ?_
  rintro e w1 ⟨rfl, hb⟩
  go_wp2_with fail
  go_ret
  exact retB rfl hb
end Go.Proofs.Ytmjblefjaccocaa.Sc
