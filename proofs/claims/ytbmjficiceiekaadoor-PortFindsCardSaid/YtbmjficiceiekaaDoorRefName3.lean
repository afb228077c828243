/- A name: by the reference of layer 3. -/
import Derived.Test.YtbmjficiceiekaaDoorMarkN
namespace Go.Proofs.YtbmjficiceiekaaDoor.Sc
open Go Go.RowKit Go.ChangeShapes Go.WideShapes Go.ChangeAt
set_option maxRecDepth 100000

theorem letter3_any (c : Int) (w : World) : Calls Tryd.prog 50 #[.int .u8 c] w (RetB w (letter c)) := by
  go_enter Tryd.func50, Tryd.ntmps50
  go_wp2
  all_goals
    go_ret
    exact retB (by rw [Bool.eq_iff_iff]; simp only [letter, Bool.and_eq_true, decide_eq_true_eq, Bool.false_eq_true, false_iff]; omega) (Below.refl _ _)
theorem digit3_any (c : Int) (w : World) : Calls Tryd.prog 51 #[.int .u8 c] w (RetB w (digit c)) := by
  go_enter Tryd.func51, Tryd.ntmps51
  go_wp2
  all_goals
    go_ret
    exact retB (by rw [Bool.eq_iff_iff]; simp only [digit, Bool.and_eq_true, decide_eq_true_eq, Bool.false_eq_true, false_iff]; omega) (Below.refl _ _)
set_option maxHeartbeats 4000000 in
theorem refName3_any (s : ByteArray) (w : World) (hm : s.size ≤ 9223372036854775807) : Calls Tryd.prog 38 #[.string s] w (RetB w (nameOk s)) := by
  go_enter Tryd.func38, Tryd.ntmps38
  go_wp2
  go_loopw [3] (fun i wr => ∃ k : Nat, k ≤ s.size ∧ i = .int .i64 k ∧ charsOk s.data.toList = charsOk (s.data.toList.drop k) ∧ Below w.heap.size w wr) (fun i _ => s.size - (intOf i).toNat)
  case atStart => exact ⟨0, Nat.zero_le _, rfl, rfl, Below.refl _ _⟩
  case round =>
    obtain ⟨k, hk, rfl, hrel, hbel⟩ := hrel
    by_cases hlt : k < s.size
    · rw [chars_step s k hlt, chI_eq] at hrel
      have HR := Lib.hid hrel
      have HBEL := Lib.hid hbel
      clear hrel hbel
      have HL := letter3_any ((s[k]'hlt).toNat : Int)
      have HD := digit3_any ((s[k]'hlt).toNat : Int)
      generalize hlv : letter ((s[k]'hlt).toNat : Int) = bl at HL HR
      generalize hdv : digit ((s[k]'hlt).toNat : Int) = bd at HD HR
      clear hlv hdv
      cases bl <;> cases bd
      all_goals
        go_wp2_with (first
          | ((with_reducible refine (HL _).mono ?_); rintro e w2 ⟨rfl, hb2⟩; have HB2 := Lib.hid (HBEL.out.trans (hb2.mono HBEL.out.size)); clear hb2)
          | ((with_reducible refine (HD _).mono ?_); rintro e w3 ⟨rfl, hb3⟩; have HB3 := Lib.hid (HB2.out.trans (hb3.mono HB2.out.size)); clear hb3)
          | fail)
      all_goals first
        | (go_roundw
           case rel => exact ⟨k + 1, by omega, by go_num, by
              have hr := HR.out
              first
                | simpa using hr
                | (generalize ((s[k]'hlt).toNat : Int) = c at *
                   simp at *
                   simp [*]), by first | exact HB3.out | exact HB2.out⟩
           case measure => simp [intOf]; omega)
        | (go_ret
           exact retB (by
              have hr := HR.out
              generalize ((s[k]'hlt).toNat : Int) = c at *
              simp at *
              simp [nameOk, *]) (by first | exact HB3.out | exact HB2.out))
    · have HR := Lib.hid hrel
      clear hrel
      go_wp2
      all_goals
        go_ret
        exact retB (by rw [nameOk, HR.out, chars_end s k (by omega), Bool.and_true, Bool.eq_iff_iff]; simp only [Bool.and_eq_true, decide_eq_true_eq, Bool.false_eq_true, false_iff]; omega) hbel
end Go.Proofs.YtbmjficiceiekaaDoor.Sc
