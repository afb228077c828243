/- A row appended to an own row, in a region that keeps its order. No program in sight. -/
import Derived.Test.YtnlfhncbnfmccaaAny
namespace Go.Proofs.Ytnlfhncbnfmccaa.Any
open Go Go.RowKit
variable {P : Program} {ops : Array Oper} {Q : Exit → Act → World → Prop}
theorem wpl_cat {te e : TypeId} {i : TypeInfo} {z : Value} {size bytes base : Nat} {n m : Nat} {xs news : List Value} {dst : Option Tmp} {x y : Operand} {t : TypeId} {pos : String} {after : Array Edge} {gd : Option (Nat × Bool)} {vx vy : Value} {a : Act} {w : World} {rest : List Oper}
    (hw : Region.wanted ⟨dst, .call ⟨.builtin .append, #[x, y], #[te, te]⟩, t, pos, after, gd⟩ (yielded ops a.tmps) = true) (hx : a.eval x = vx) (hy : a.eval y = vy)
    (hu : P.underlying te = some (.slice e)) (hi : P.info? e = some i) (hz : i.zero = some z)
    (hsz : i.size = size) (hby : i.bytes = bytes) (hzs : z.cells.size = size) (hpos : 0 < size) (hown : w.ownsRow base e size vx n xs) (hsrc : Sc.Src w size vy m news)
    (h1 : ∀ u ∈ news, u.oneCell' = true) (h63 : n + m ≤ maxLen) (hb : (n + m) * bytes ≤ 140737488355328) (hbase : base ≤ w.heap.size)
    (h : ∀ v' w', w'.ownsRow base e size v' (n + m) (xs ++ news) → w.grownBy w' vx.ownBlock → (∀ b, v'.ownBlock = some b → vx.ownBlock = some b ∨ w.heap.size ≤ b) → wpList P ops Q rest (a.put dst v') w') :
    wpList P ops Q (⟨dst, .call ⟨.builtin .append, #[x, y], #[te, te]⟩, t, pos, after, gd⟩ :: rest) a w := by
  subst hx hy
  exact wpl hw (ok_append_own hu hi hz hsz hby hzs hpos hown hsrc h1 h63 hb hbase h)
end Go.Proofs.Ytnlfhncbnfmccaa.Any
