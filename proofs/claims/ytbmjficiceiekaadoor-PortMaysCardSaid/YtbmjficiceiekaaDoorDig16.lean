/- The reference's digits. -/
import Derived.Test.YtbmjficiceiekaaDoorText16
import Derived.Laws.IdiomStrings
namespace Go.Proofs.YtbmjficiceiekaaDoor.Sc
open Go Go.RowKit Go.ChangeShapes Go.WideShapes Go.ChangeAt
set_option maxRecDepth 100000

def dg (n : Nat) : UInt8 := UInt8.ofNat (48 + n % 10)
theorem dg_nat (n : Nat) : ((dg n).toNat : Int) = 48 + (n : Int) % 10 := by
  have : (dg n).toNat = 48 + n % 10 := by
    rw [dg, UInt8.toNat_ofNat']
    omega
  omega
theorem dig_conv (n : Nat) (w : World) : (convert 72 9 (.slice (some ⟨w.heap.size, 0, none⟩) 1 1)).run Tryd.prog (w.alloc (.cells #[.int .u8 (48 + (n : Int) % 10)] 5)) = .ok (.string (txt [dg n])) (w.alloc (.cells #[.int .u8 (48 + (n : Int) % 10)] 5)) := by
  refine run_convert_bytes_back _ 72 9 5 ⟨w.heap.size, 0, none⟩ 1 [dg n] Tryd.underlying72 Tryd.underlying5 Tryd.underlying9 fun j hj => ?_
  obtain rfl : j = 0 := by simp at hj; omega
  have := cell_blk (heap_alloc_new w (.cells #[.int .u8 (48 + (n : Int) % 10)] 5)) 0
  simp only [List.getElem_cons_zero, dg_nat]
  exact this
theorem txt_append (a b : List UInt8) : txt a ++ txt b = txt (a ++ b) := by
  apply ByteArray.ext
  rw [ByteArray.data_append]
  simp [txt]
def preD (n : Nat) : List UInt8 := if n < 10 then [] else Lib.decDigits (n / 10)
theorem dec_pre (n : Nat) : Lib.decDigits n = preD n ++ [dg n] := by
  rw [Lib.decDigits, preD, dg]
  split
  · rw [Nat.mod_eq_of_lt (by assumption)]; rfl
  · rfl
theorem preD_big {n : Nat} (h : ¬ n < 10) : preD n = preD (n / 10) ++ [dg (n / 10)] := by rw [← dec_pre, preD, if_neg h]
set_option maxHeartbeats 2000000 in
theorem digits_any (n : Nat) (hn : n ≤ 1048576) (w : World) : Calls Tryd.prog 43 #[.int .i64 n] w (Ret w (.string (txt (Lib.itoa n)))) := by
  have HN := Lib.hid hn
  clear hn
  go_enter Tryd.func43, Tryd.ntmps43
  go_wp2_with fail
  rw [dig_conv]
  simp only [Result.andThen]
  rw [Oper.upon_value]
  go_wp2_with fail
  have HB := Lib.hid (one_below w (.cells #[.int .u8 (48 + (n : Int) % 10)] 5))
  obtain ⟨w0, hw0⟩ : ∃ w0, w0 = w.alloc (.cells #[.int .u8 (48 + (n : Int) % 10)] 5) := ⟨_, rfl⟩
  rw [← hw0] at HB ⊢
  clear hw0
  go_loopw [0, 3] (fun i s wr => ∃ (k : Nat) (t : List UInt8), i = .int .i64 k ∧ k ≤ n ∧ s = .string (txt t) ∧ t.length ≤ 1 + (n - k) ∧ Lib.decDigits n = preD k ++ t ∧ Below w.heap.size w wr) (fun i _ _ => (intOf i).toNat)
  case atStart => exact ⟨n, [dg n], rfl, Nat.le_refl _, rfl, by simp, dec_pre n, HB.out⟩
  case round =>
    obtain ⟨k, t, rfl, hkn, rfl, htl, hd, hb⟩ := hrel
    have HD := Lib.hid hd
    have HBW := Lib.hid hb
    have HT := Lib.hid htl
    have HK := Lib.hid hkn
    clear hd hb htl hkn
    by_cases hlt : 9 < k
    · have hki : (9 : Int) < (k : Int) := by omega
      have HKL := Lib.hid hlt
      obtain ⟨m, hm⟩ : ∃ m, m = k / 10 := ⟨_, rfl⟩
      have hq : (k : Int).tdiv 10 = (m : Int) := by rw [hm]; rfl
      have hm1 : (m : Int) ≤ 1048576 := by have := HN.out; have := HK.out; omega
      have hq2 : (m : Int).tmod 10 = (m : Int) % 10 := Int.tmod_eq_emod_of_nonneg (by omega)
      have HM : Hid (m = k / 10) := Lib.hid hm
      clear hm
      go_wp2_with fail
      rw [dig_conv]
      simp only [Result.andThen]
      rw [Oper.upon_value]
      have HT1 := Lib.hid (show (txt [dg m]).size + (txt t).size ≤ 9223372036854775807 by
        have h1 := HT.out
        have h2 := HN.out
        have e1 : (txt [dg m]).size = 1 := rfl
        have e2 : (txt t).size = t.length := by simp [txt, ByteArray.size]
        omega)
      have hn1 : ¬ 9223372036854775807 < (txt [dg m]).size + (txt t).size := by have := HT1.out; omega
      go_wp2_with fail
      go_roundw
      case rel =>
        have h1 := HM.out
        have h2 := HT.out
        have h3 := HK.out
        have h4 := HKL.out
        refine ⟨m, dg m :: t, rfl, by omega, congrArg Value.string (txt_append [dg m] t), by simp only [List.length_cons]; omega, ?_, HBW.out.alloc HBW.out.size _⟩
        rw [HD.out, preD_big (by omega), ← h1, List.append_assoc]
        rfl
      case measure =>
        have h1 := HM.out
        have h4 := HKL.out
        (simp [intOf]) <;> omega
    · have hki : ¬ (9 : Int) < (k : Int) := by omega
      have HE : Hid (Lib.itoa n = t) := Lib.hid (by rw [Lib.itoa_nonneg, HD.out, preD, if_pos (by omega)]; rfl)
      clear hlt
      go_wp2_with fail
      go_ret
      exact ⟨by rw [HE.out]; rfl, HBW.out⟩
end Go.Proofs.YtbmjficiceiekaaDoor.Sc
