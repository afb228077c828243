/- Texts compared; the letters of a name. -/
import Derived.Test.YtbigoifpfkdkjaaGreatLaw
namespace Go.Proofs.YtbigoifpfkdkjaaGreat.Sc
open Go Go.RowKit Go.ChangeShapes Go.WideShapes Go.ChangeAt
set_option maxRecDepth 100000

/-- Texts compared. -/
theorem str_beq (a b : ByteArray) : (a.toList == b.toList) = decide (a = b) := by
  by_cases h : a = b
  · subst h; simp
  · rw [decide_eq_false h]
    cases hb : a.toList == b.toList with
    | false => rfl
    | true => exact absurd (bytes_inj (by rw [← ByteArray.toList_eq, ← ByteArray.toList_eq]; exact eq_of_beq hb)) h
theorem str_yes {a b : ByteArray} (h : a = b) : (a.toList == b.toList) = true := by rw [str_beq, decide_eq_true h]
theorem str_no {a b : ByteArray} (h : ¬ a = b) : (a.toList == b.toList) = false := by rw [str_beq, decide_eq_false h]

def chI (c : Int) : Bool := !((decide (c < 97) || decide (122 < c)) && ((decide (c < 48) || decide (57 < c)) && c != 45))
def chOk (b : UInt8) : Bool := chI (b.toNat : Int)
def charsOk (l : List UInt8) : Bool := l.all chOk
def nameOk (s : ByteArray) : Bool := decide (1 ≤ s.size) && (decide (s.size ≤ 16) && charsOk s.data.toList)
theorem chars_step (s : ByteArray) (k : Nat) (h : k < s.size) : charsOk (s.data.toList.drop k) = (chI ((s[k]'h).toNat : Int) && charsOk (s.data.toList.drop (k + 1))) := by
  have hk : k < s.data.toList.length := by rw [Array.length_toList]; exact h
  rw [List.drop_eq_getElem_cons hk]
  have : s.data.toList[k] = s[k]'h := by simp [ByteArray.getElem_eq_getElem_data]
  rw [this]; rfl
theorem chars_end (s : ByteArray) (k : Nat) (h : s.size ≤ k) : charsOk (s.data.toList.drop k) = true := by
  rw [List.drop_eq_nil_of_le (by rw [Array.length_toList]; exact h)]; rfl

end Go.Proofs.YtbigoifpfkdkjaaGreat.Sc
