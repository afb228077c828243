/- mark.Name and the document's word of layer 6. -/
import Derived.Test.YtbigoifpfkdkjaaGreatChars
namespace Go.Proofs.YtbigoifpfkdkjaaGreat.Sc
open Go Go.RowKit Go.ChangeShapes Go.WideShapes Go.ChangeAt
set_option maxRecDepth 100000

def letter (c : Int) : Bool := decide (97 ≤ c) && decide (c ≤ 122)
def digit (c : Int) : Bool := decide (48 ≤ c) && decide (c ≤ 57)
theorem chI_eq (c : Int) : chI c = (letter c || (digit c || decide (c = 45))) := by
  rw [Bool.eq_iff_iff]; simp only [chI, letter, digit, Bool.not_eq_true', Bool.and_eq_false_imp, Bool.or_eq_true, Bool.and_eq_true, decide_eq_true_eq, bne_eq_false_iff_eq]; omega
theorem letter_any (c : Int) (w : World) : Calls Tryz.prog 49 #[.int .u8 c] w (RetB w (letter c)) := by
  go_enter Tryz.func49, Tryz.ntmps49
  go_wp2
  all_goals
    go_ret
    exact retB (by rw [Bool.eq_iff_iff]; simp only [letter, Bool.and_eq_true, decide_eq_true_eq, Bool.false_eq_true, false_iff]; omega) (Below.refl _ _)
theorem digit_any (c : Int) (w : World) : Calls Tryz.prog 50 #[.int .u8 c] w (RetB w (digit c)) := by
  go_enter Tryz.func50, Tryz.ntmps50
  go_wp2
  all_goals
    go_ret
    exact retB (by rw [Bool.eq_iff_iff]; simp only [digit, Bool.and_eq_true, decide_eq_true_eq, Bool.false_eq_true, false_iff]; omega) (Below.refl _ _)

set_option maxHeartbeats 2000000 in
theorem markName_any (s : ByteArray) (w : World) : Calls Tryz.prog 31 #[.string s] w (RetB w (nameOk s)) := by
  by_cases hn : 1 ≤ s.size ∧ s.size ≤ 16
  · obtain ⟨h1, h2⟩ := hn
    have t1 : decide ((s.size : Int) < 1) = false := by simp; omega
    have t2 : decide ((16 : Int) < (s.size : Int)) = false := by simp; omega
    have HN : Hid (nameOk s = charsOk (s.data.toList.drop 0)) := Lib.hid (by simp [nameOk, h1, h2])
    go_enter Tryz.func31, Tryz.ntmps31
    go_wp2
    go_loopw [14] (fun i wr => ∃ k : Nat, k ≤ s.size ∧ i = .int .i64 k ∧ nameOk s = charsOk (s.data.toList.drop k) ∧ Below w.heap.size w wr) (fun i _ => s.size - (intOf i).toNat)
    case atStart => exact ⟨0, Nat.zero_le _, rfl, HN.out, Below.refl _ _⟩
    case round =>
      obtain ⟨k, hk, rfl, hrel, hbel⟩ := hrel
      by_cases hlt : k < s.size
      · rw [chars_step s k hlt, chI_eq] at hrel
        have HR := Lib.hid hrel
        have HBEL := Lib.hid hbel
        clear hrel hbel t1 t2 h1 HN
        have HL := letter_any ((s[k]'hlt).toNat : Int)
        have HD := digit_any ((s[k]'hlt).toNat : Int)
        generalize hlv : letter ((s[k]'hlt).toNat : Int) = bl at HL HR
        generalize hdv : digit ((s[k]'hlt).toNat : Int) = bd at HD HR
        clear hlv hdv
        cases bl <;> cases bd
        all_goals
          go_wp2_with (first
            | ((with_reducible refine (HL _).mono ?_); rintro e w2 ⟨rfl, hb2⟩; have HB2 := Lib.hid (HBEL.out.trans (hb2.mono HBEL.out.size)); clear hb2)
            | ((with_reducible refine (HD _).mono ?_); rintro e w3 ⟨rfl, hb3⟩; have HB3 := Lib.hid (HB2.out.trans (hb3.mono HB2.out.size)); clear hb3)
            | fail)
        all_goals first
          | (go_roundw
             case rel => exact ⟨k + 1, by omega, by go_num, by
                have hr := HR.out
                first
                  | simpa using hr
                  | (generalize ((s[k]'hlt).toNat : Int) = c at *
                     simp at *
                     simp [*]), by first | exact HB3.out | exact HB2.out⟩
             case measure => simp [intOf]; omega)
          | (go_ret
             exact retB (by
                have hr := HR.out
                generalize ((s[k]'hlt).toNat : Int) = c at *
                simp at *
                simp [*]) (by first | exact HB3.out | exact HB2.out))
      · have HR := Lib.hid hrel
        clear hrel
        go_wp2
        go_ret
        exact retB (by rw [HR.out, chars_end s k (by omega)]) hbel
  · have HN : Hid (nameOk s = false) := Lib.hid (by
      simp only [nameOk]
      by_cases h1 : 1 ≤ s.size
      · have h2 : ¬ s.size ≤ 16 := fun h => hn ⟨h1, h⟩
        simp only [h2, decide_false, Bool.false_and, Bool.and_false]
      · simp only [h1, decide_false, Bool.false_and])
    go_enter Tryz.func31, Tryz.ntmps31
    by_cases h1 : 1 ≤ s.size
    · have t1 : decide ((s.size : Int) < 1) = false := by simp; omega
      have t2 : decide ((16 : Int) < (s.size : Int)) = true := by simp; omega
      clear hn
      go_wp2
      go_ret
      exact retB HN.out.symm (Below.refl _ _)
    · have t1 : decide ((s.size : Int) < 1) = true := by simp; omega
      clear hn
      go_wp2
      go_ret
      exact retB HN.out.symm (Below.refl _ _)
end Go.Proofs.YtbigoifpfkdkjaaGreat.Sc
