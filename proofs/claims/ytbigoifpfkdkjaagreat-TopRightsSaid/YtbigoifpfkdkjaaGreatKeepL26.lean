/- Liens.keep: the pledges of a thing of which something holds; Release. -/
import Derived.Test.YtbigoifpfkdkjaaGreatPledge26
import Derived.Test.YtbigoifpfkdkjaaGreatSetC
namespace Go.Proofs.YtbigoifpfkdkjaaGreat.Sc
open Go Go.RowKit Go.ChangeShapes Go.WideShapes Go.ChangeAt
set_option maxRecDepth 100000

def keepR (R : ByteArray → List Pg) (t : ByteArray) (f : Pg → Bool) : ByteArray → List Pg := fun u => if u = t then (R t).filter f else R u
theorem push_below {w wr w1 : World} {e : TypeId} {sz n : Nat} {v : Value} {xs : List Value} (hbel : Below w.heap.size w wr) (hown : wr.ownsRow w.heap.size e sz v n xs) (hg : wr.grownBy w1 v.ownBlock) : Below w.heap.size w w1 :=
  hbel.grown hg hbel.size (fun k hk => (hown.lt k hk).1)
theorem filter_snoc {l : List Pg} {k : Nat} (h : k < l.length) (f : Pg → Bool) : (l.take (k + 1)).filter f = if f l[k] = true then (l.take k).filter f ++ [l[k]] else (l.take k).filter f := by
  rw [List.take_succ_eq_append_getElem h, List.filter_append]
  by_cases hf : f l[k] = true
  · rw [if_pos hf]; simp [hf]
  · rw [if_neg hf]; simp [hf]
theorem kept_del {w wr wS wT : World} {F : Nat → Prop} {bk bm n n' : Nat} {R R' : ByteArray → List Pg} {es : Mp.Ents} {t : ByteArray} {c : Int} (h : LnAt w F bk bm R n es) (hb : Below w.heap.size w wr) (hk : Keep (fun k => k = bk) wr wS) (hbx : wS.heap[bk]? = some (.cells #[.map (some bm), .int .i64 c] 49 (0, 0)))
    (hm : Mp.MapAt wT bm (Mp.mdel es t)) (hg : wS.grownBy wT (some bm)) (hR : R' = fun u => if u = t then [] else R u) (hn : (n' : Int) = c) : LnP w F bk bm R' n' (.tuple #[]) (.returned (.tuple #[])) wT := by
  subst hR hn
  have k1 : Keep (fun b => b = bk ∨ b = bm) wr wT := (hk.mono fun i _ hi => .inl hi).trans (Keep.of_grown hg) fun i _ hi => .inr (Option.some.inj hi).symm
  have k2 : Keep (fun b => b = bk ∨ b = bm) w wT := (Keep.of_below hb).trans k1 fun _ _ h => h
  exact ⟨F, _, rfl, h.del k2 ((hg.block bk (lt_blk hbx) (fun e => h.ne (by first | exact (Option.some.inj e) | exact (Option.some.inj e).symm))).trans hbx) hm, fun k hk => .inl hk, k2.mono fun i _ hi => hi.elim (fun e => e ▸ h.fk) (fun e => e ▸ h.fm)⟩
theorem kept_set {w wr wS wT : World} {F : Nat → Prop} {bk bm n n' : Nat} {R R' : ByteArray → List Pg} {es : Mp.Ents} {t : ByteArray} {c : Int} {r : List Pg} {v : Value} (h : LnAt w F bk bm R n es) (hr : r ≠ []) (hb : Below w.heap.size w wr) (hk : Keep (fun k => k = bk) wr wS) (hbx : wS.heap[bk]? = some (.cells #[.map (some bm), .int .i64 c] 49 (0, 0)))
    (ho : wS.ownsRow w.heap.size 27 6 v r.length (pgCells r)) (hm : Mp.MapAt wT bm (Mp.mput es t v)) (hg : wS.grownBy wT (some bm)) (hR : R' = fun u => if u = t then r else R u) (hn : (n' : Int) = c) : LnP w F bk bm R' n' (.tuple #[]) (.returned (.tuple #[])) wT := by
  subst hR hn
  have k1 : Keep (fun b => b = bk ∨ b = bm ∨ (rowV es t).ownBlock = some b) wr wT := (hk.mono fun i _ hi => .inl hi).trans (Keep.of_grown hg) fun i _ hi => .inr (.inl (Option.some.inj hi).symm)
  have k2 : Keep (fun b => b = bk ∨ b = bm ∨ (rowV es t).ownBlock = some b) w wT := (Keep.of_below hb).trans k1 fun _ _ h => h
  have hbm := h.lt _ h.fm
  refine ⟨_, _, rfl, h.set hr k2 ((hg.block bk (lt_blk hbx) (fun e => h.ne (by first | exact (Option.some.inj e) | exact (Option.some.inj e).symm))).trans hbx) hm (ownsRow_base (ownsRow_keep ho (Keep.of_grown hg) (fun g hg' e => by have := (ho.lt g hg').1; have := Option.some.inj e; omega)) (Nat.zero_le _)) (fun g hg' => .inr (ho.lt g hg').1), ?_, ?_⟩
  · rintro k (hk' | hk')
    · exact .inl hk'
    · exact .inr hk'.1
  · refine k2.mono fun i _ hi => ?_
    rcases hi with rfl | rfl | hi
    · exact h.fk
    · exact h.fm
    · exact (h.rowB hi).1
end Go.Proofs.YtbigoifpfkdkjaaGreat.Sc
