/- Texts by their bytes, in order. -/
import Derived.Test.YtbigoifpfkdkjaaGreatBase
import Derived.ChangeMaps5
namespace Go.Proofs.YtbigoifpfkdkjaaGreat.Sc
open Go Go.RowKit Go.ChangeShapes Go.WideShapes Go.ChangeAt

def bt (s : ByteArray) : List UInt8 := s.data.toList
theorem bt_inj {a b : ByteArray} (h : bt a = bt b) : a = b := bytes_inj h
theorem bytesLess_eq : ∀ (x y : List UInt8), Op.bytesLess x y = decide (x < y)
  | [], [] => rfl
  | [], b :: y => by simp [Op.bytesLess]
  | a :: x, [] => by simp [Op.bytesLess]
  | a :: x, b :: y => by
    simp only [Op.bytesLess, bytesLess_eq x y, List.cons_lt_cons_iff]
    rw [Bool.eq_iff_iff]
    simp
end Go.Proofs.YtbigoifpfkdkjaaGreat.Sc
