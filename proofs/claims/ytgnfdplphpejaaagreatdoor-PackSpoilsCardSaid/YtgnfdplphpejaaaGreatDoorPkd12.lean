/- What is packed reads as few and short boxes; a box's first number written, a box twice. No program in sight but for the types' numbers. -/
import Derived.Test.YtgnfdplphpejaaaGreatDoorBxL12
import Derived.Test.YtgnfdplphpejaaaGreatDoorRefSame12
namespace Go.Proofs.YtgnfdplphpejaaaGreatDoor.Sc
open Go Go.RowKit Go.ChangeShapes Go.WideShapes Go.ChangeAt
set_option maxRecDepth 100000
theorem boxOk_few {t : List Gd} {b : Bx} (h : boxOk t b = true) : b.lots.length ≤ t.length := by
  obtain ⟨-, -, h2, h3⟩ := boxOk_iff.1 h
  have := length_sub (b.lots.map Lt.good) (codes t) h3 (fun n hn => by
    obtain ⟨x, hx, rfl⟩ := List.mem_map.1 hn
    obtain ⟨g, hg⟩ := ((goP_iff.1 h2).2.1 x hx).2
    obtain ⟨h4, h5⟩ := gOf_mem hg
    exact List.mem_map.2 ⟨g, h4, h5⟩)
  simpa [codes] using this
theorem boxOk_fit {t : List Gd} {x : Bv} (hft : ∀ g ∈ t, g.fit) (h : boxOk t x.b = true) : x.fit ∧ ∀ y ∈ x.b.lots, 1 ≤ y.cnt ∧ y.cnt ≤ 1048576 := by
  obtain ⟨h1, -, h2, -⟩ := boxOk_iff.1 h
  have hin := (goP_iff.1 h2).2.1
  refine ⟨⟨?_, fun y hy => ?_⟩, fun y hy => lot_range (hin y hy).1⟩
  · simp only [markOk, Bool.and_eq_true, decide_eq_true_eq] at h1
    have := h1.1
    rw [bt_len] at this
    omega
  · obtain ⟨g, hg⟩ := (hin y hy).2
    obtain ⟨h4, h5⟩ := gOf_mem hg
    exact ⟨by rw [← h5]; exact (hft g h4).code⟩
theorem packed_few {t : List Gd} {first : Int} {own : ByteArray} {l : List Lt} {R : List Bv} (h : Packed t first own l (R.map Bv.b)) (ht : t.length ≤ 12) (hft : ∀ g ∈ t, g.fit) : BxFew R ∧ (∀ x ∈ R, x.fit) ∧ ∀ x ∈ R, x.b.lots ≠ [] ∧ x.b.lots.length ≤ 12 ∧ ∀ y ∈ x.b.lots, 1 ≤ y.cnt ∧ y.cnt ≤ 1048576 := by
  have hr := (rightP_iff.1 h.right).1
  have hb : ∀ x ∈ R, boxOk t x.b = true := fun x hx => hr _ (List.mem_map.2 ⟨x, hx, rfl⟩)
  have hl := h.len
  rw [List.length_map] at hl
  refine ⟨⟨by omega, fun x hx => by have := boxOk_few (hb x hx); omega, fun x hx y hy => by have := (boxOk_fit hft (hb x hx)).2 y hy; omega⟩, fun x hx => (boxOk_fit hft (hb x hx)).1, fun x hx => ⟨(boxOk_iff.1 (hb x hx)).2.1, by have := boxOk_few (hb x hx); omega, (boxOk_fit hft (hb x hx)).2⟩⟩
theorem set_same {α : Type} {l : List α} {i : Nat} {u : α} (h : l[i]? = some u) : l.set i u = l := by
  apply List.ext_getElem?
  intro j
  rw [List.getElem?_set]
  split
  · rename_i e
    subst e
    have := (List.getElem?_eq_some_iff.1 h).1
    rw [if_pos this, h]
  · rfl
/-- A box's first lot has another number of pieces. -/
theorem BsAt.setCnt {w : World} {v : Value} {R : List Bv} {B : Nat} (h : BsAt w v R B) {q g2 : Nat} (hq : q < R.length) (hv : R[q].v.ownBlock = some g2) {x : Lt} {r : List Lt} (hx : R[q].b.lots = x :: r) (c : Int) :
    BsAt (w.setCell ⟨g2, 1, none⟩ (.int .i64 c)) v (R.set q ⟨{ R[q].b with lots := ⟨x.good, c⟩ :: r }, R[q].v⟩) B := by
  have hqm := h.lots _ (List.getElem_mem hq)
  have hsame : ∀ j, j ≠ g2 → (w.setCell ⟨g2, 1, none⟩ (.int .i64 c)).heap[j]? = w.heap[j]? := fun j hj => Below.heap_setCell w _ _ j (fun e => hj e)
  have hvv : ∀ i (hi : i < R.length), ((R.set q ⟨{ R[q].b with lots := ⟨x.good, c⟩ :: r }, R[q].v⟩)[i]'(by rw [List.length_set]; exact hi)).v = R[i].v := fun i hi => by
    by_cases e : q = i
    · subst e; rw [List.getElem_set_self]
    · rw [List.getElem_set_ne e]
  refine ⟨?_, fun y hy => ?_, ?_⟩
  · rw [← bvCells_setv hq, set_same (bvCells_at hq).2.2, List.length_set]
    exact Any.ownsRow_same h.own fun k hk => hsame k fun e => own_ne h.own hqm (by decide) k hk (e ▸ hv)
  · obtain ⟨i, hi, rfl⟩ := List.getElem_of_mem hy
    rw [List.length_set] at hi
    by_cases e : q = i
    · subst e
      rw [List.getElem_set_self]
      obtain ⟨cc, n⟩ : ∃ cc, R[q].v = .slice (some ⟨g2, 0, none⟩) R[q].b.lots.length cc := by
        rcases hqm.2 with ⟨h1, -⟩ | ⟨g, cap, cur, h1, -⟩
        · rw [h1] at hv; cases hv
        · rw [h1] at hv
          obtain rfl : g = g2 := Option.some.inj hv
          exact ⟨cap, h1⟩
      show (w.setCell ⟨g2, 1, none⟩ (.int .i64 c)).ownsRow B 38 2 R[q].v (⟨x.good, c⟩ :: r : List Lt).length (ltCells (⟨x.good, c⟩ :: r))
      rw [n] at hqm ⊢
      have h1 := own_cell hqm 1 (.int .i64 c)
      have h2 : (ltCells R[q].b.lots).set 1 (.int .i64 c) = ltCells (⟨x.good, c⟩ :: r) := by rw [hx]; rfl
      rw [h2] at h1
      have h3 : R[q].b.lots.length = (⟨x.good, c⟩ :: r : List Lt).length := by rw [hx]; rfl
      rw [← h3]
      exact h1
    · rw [List.getElem_set_ne e]
      have hi' := h.lots _ (List.getElem_mem hi)
      refine Any.ownsRow_same hi' fun k hk => hsame k fun ek => ?_
      subst ek
      rcases Nat.lt_or_gt_of_ne e with h2 | h2
      · exact List.pairwise_iff_getElem.1 h.apart q i hq hi h2 k hv hk
      · exact List.pairwise_iff_getElem.1 h.apart i q hi hq h2 k hk hv
  · rw [List.pairwise_iff_getElem]
    intro i j hi hj hij k h1
    rw [List.length_set] at hi hj
    rw [hvv i hi] at h1
    rw [hvv j hj]
    exact List.pairwise_iff_getElem.1 h.apart i j hi hj hij k h1
/-- A box stands twice. -/
theorem boxes_twice {w w' : World} {v v' : Value} {R : List Bv} {B : Nat} {x : Bv} (h : BsAt w v R B) (hx : x ∈ R) (ho : w'.ownsRow B 45 3 v' (R.length + 1) (bvCells R ++ x.cells)) (hg : w.grownBy w' v.ownBlock) : BoxesAt w' v' (R ++ [x]) := by
  have hk : ∀ y ∈ R, Sl w' 2 y.v (y.b.lots.map Lt.row) := fun y hy => by
    have hy' := h.lots y hy
    exact own_lots (Any.ownsRow_same hy' fun b hb => hg.block b (hy'.lt b hb).2 fun e => own_ne h.own hy' (by decide) b e.symm hb) rfl
  refine ⟨?_, fun y hy => ?_⟩
  · have he : ((R ++ [x]).map Bv.cells).flatten = bvCells (R ++ [x]) := by rw [bvCells, List.flatMap_def]
    refine own_sl (B := B) (e := 45) (n := R.length + 1) (xs := (R ++ [x]).map Bv.cells) ?_ (by simp) fun r hr => ?_
    · rw [he, bvCells_append]
      simpa [bvCells] using ho
    · obtain ⟨y, -, rfl⟩ := List.mem_map.1 hr
      rfl
  · rcases List.mem_append.1 hy with hy | hy
    · exact hk y hy
    · rw [List.mem_singleton.1 hy]; exact hk x hx
theorem set_split {R : List Bv} {q : Nat} (hq : q < R.length) (y : Bv) : R.map Bv.b = (R.take q).map Bv.b ++ R[q].b :: (R.drop (q + 1)).map Bv.b ∧ (R.set q y).map Bv.b = (R.take q).map Bv.b ++ y.b :: (R.drop (q + 1)).map Bv.b := by
  constructor
  · have := List.take_append_drop q R
    rw [List.drop_eq_getElem_cons hq] at this
    have h2 := congrArg (List.map Bv.b) this
    rw [List.map_append, List.map_cons] at h2
    exact h2.symm
  · rw [List.set_eq_take_append_cons_drop, if_pos hq, List.map_append, List.map_cons]
theorem few_set {R : List Bv} {q : Nat} (hq : q < R.length) {x : Lt} {r : List Lt} (hx : R[q].b.lots = x :: r) {c : Int} (hc : c ≤ 1099511627776) (h : BxFew R) (hf : ∀ y ∈ R, y.fit) :
    BxFew (R.set q ⟨{ R[q].b with lots := ⟨x.good, c⟩ :: r }, R[q].v⟩) ∧ ∀ y ∈ R.set q ⟨{ R[q].b with lots := ⟨x.good, c⟩ :: r }, R[q].v⟩, y.fit := by
  have hm := List.getElem_mem hq
  have h1 := h.lots _ hm
  have h2 := h.cnt _ hm
  have h3 := hf _ hm
  rw [hx] at h1 h2
  have h4 := h3.2
  rw [hx] at h4
  have key : ∀ y ∈ R.set q ⟨{ R[q].b with lots := ⟨x.good, c⟩ :: r }, R[q].v⟩, y ∈ R ∨ y = ⟨{ R[q].b with lots := ⟨x.good, c⟩ :: r }, R[q].v⟩ := fun y hy => List.mem_or_eq_of_mem_set hy
  refine ⟨⟨by rw [List.length_set]; exact h.len, fun y hy => ?_, fun y hy z hz => ?_⟩, fun y hy => ?_⟩
  · rcases key y hy with hy | rfl
    · exact h.lots y hy
    · exact h1
  · rcases key y hy with hy | rfl
    · exact h.cnt y hy z hz
    · rcases List.mem_cons.1 hz with rfl | hz
      · exact hc
      · exact h2 z (List.mem_cons_of_mem _ hz)
  · rcases key y hy with hy | rfl
    · exact hf y hy
    · refine ⟨h3.1, fun z hz => ?_⟩
      rcases List.mem_cons.1 hz with rfl | hz
      · exact ⟨(h4 x List.mem_cons_self).good⟩
      · exact h4 z (List.mem_cons_of_mem _ hz)
theorem few_app {R : List Bv} {x : Bv} (hx : x ∈ R) (h : BxFew R) (hl : R.length ≤ 64) (hf : ∀ y ∈ R, y.fit) : BxFew (R ++ [x]) ∧ ∀ y ∈ R ++ [x], y.fit := by
  have key : ∀ y ∈ R ++ [x], y ∈ R := fun y hy => by
    rcases List.mem_append.1 hy with hy | hy
    · exact hy
    · rw [List.mem_singleton.1 hy]; exact hx
  exact ⟨⟨by rw [List.length_append, List.length_singleton]; omega, fun y hy => h.lots y (key y hy), fun y hy => h.cnt y (key y hy)⟩, fun y hy => hf y (key y hy)⟩
end Go.Proofs.YtgnfdplphpejaaaGreatDoor.Sc
