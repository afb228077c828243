/- Boxes as they lie in memory: a row of them, each with its own row of lots. No program in sight but for the types' numbers. -/
import Derived.Test.YtbigoifpfkdkjaaGreatDoorTd30
import Derived.Test.YtbigoifpfkdkjaaGreatDoorTd32
import Derived.Test.YtbigoifpfkdkjaaGreatDoorTd33
namespace Go.Proofs.YtbigoifpfkdkjaaGreatDoor.Sc
open Go Go.RowKit
set_option maxRecDepth 100000

/-- A box, and the value of its lots. -/
structure Bv where
  b : Bx
  v : Value
def Bv.cells (x : Bv) : List Value := [.string x.b.mark, .int .i64 x.b.kind, x.v]
def bvCells (R : List Bv) : List Value := R.flatMap Bv.cells
theorem bvCells_append (A B : List Bv) : bvCells (A ++ B) = bvCells A ++ bvCells B := List.flatMap_append
theorem bvCells_len : ∀ R : List Bv, (bvCells R).length = R.length * 3
  | [] => rfl
  | x :: r => by
    rw [show x :: r = [x] ++ r from rfl, bvCells_append, List.length_append, bvCells_len r, List.length_append]
    simp [bvCells, Bv.cells]
    omega
theorem bvCells_at : ∀ {R : List Bv} {q : Nat} (h : q < R.length), (bvCells R)[q * 3]? = some (.string R[q].b.mark) ∧ (bvCells R)[q * 3 + 1]? = some (.int .i64 R[q].b.kind) ∧ (bvCells R)[q * 3 + 2]? = some R[q].v
  | x :: r, 0, _ => ⟨rfl, rfl, rfl⟩
  | x :: r, q + 1, h => by
    have ih := bvCells_at (R := r) (q := q) (by simpa using h)
    rw [show (q + 1) * 3 = q * 3 + 1 + 1 + 1 by omega]
    show (Value.string x.b.mark :: Value.int .i64 x.b.kind :: x.v :: bvCells r)[_]? = _ ∧ (Value.string x.b.mark :: Value.int .i64 x.b.kind :: x.v :: bvCells r)[_]? = _ ∧ (Value.string x.b.mark :: Value.int .i64 x.b.kind :: x.v :: bvCells r)[_]? = _
    simp only [List.getElem?_cons_succ, List.getElem_cons_succ]
    exact ih
theorem bvCells_setv : ∀ {R : List Bv} {q : Nat} (_ : q < R.length) (L : List Lt) (v : Value), (bvCells R).set (q * 3 + 2) v = bvCells (R.set q ⟨{ R[q].b with lots := L }, v⟩)
  | x :: r, 0, _, L, v => rfl
  | x :: r, q + 1, h, L, v => by
    have ih := bvCells_setv (R := r) (q := q) (by simpa using h) L v
    rw [show (q + 1) * 3 + 2 = (q * 3 + 2) + 1 + 1 + 1 by omega]
    show Value.string x.b.mark :: Value.int .i64 x.b.kind :: x.v :: (bvCells r).set (q * 3 + 2) v = _
    rw [ih]
    rfl
theorem bvCells_setm : ∀ {R : List Bv} {q : Nat} (_ : q < R.length) (m : ByteArray), (bvCells R).set (q * 3) (.string m) = bvCells (R.set q ⟨{ R[q].b with mark := m }, R[q].v⟩)
  | x :: r, 0, _, m => rfl
  | x :: r, q + 1, h, m => by
    have ih := bvCells_setm (R := r) (q := q) (by simpa using h) m
    rw [show (q + 1) * 3 = (q * 3) + 1 + 1 + 1 by omega]
    show Value.string x.b.mark :: Value.int .i64 x.b.kind :: x.v :: (bvCells r).set (q * 3) (.string m) = _
    rw [ih]
    rfl
/-- Boxes of one's own. -/
structure BsAt (w : World) (v : Value) (R : List Bv) (B : Nat) : Prop where
  own : w.ownsRow B 96 3 v R.length (bvCells R)
  lots : ∀ x ∈ R, w.ownsRow B 107 2 x.v x.b.lots.length (ltCells x.b.lots)
  apart : R.Pairwise fun x y => ∀ k, x.v.ownBlock = some k → y.v.ownBlock ≠ some k
/-- The blocks that they take up. -/
def Blks (v : Value) (R : List Bv) (k : Nat) : Prop := v.ownBlock = some k ∨ ∃ x ∈ R, x.v.ownBlock = some k
theorem own_blkT {w : World} {B n sz : Nat} {e : TypeId} {v : Value} {xs : List Value} {b : Nat} (h : w.ownsRow B e sz v n xs) (hb : v.ownBlock = some b) : ∃ c, w.heap[b]? = some (.cells c e (0, 0)) := by
  rcases h.2 with ⟨rfl, _⟩ | ⟨g, cap, cur, rfl, _, hh, _⟩
  · cases hb
  · obtain rfl : g = b := Option.some.inj hb
    exact ⟨cur, hh⟩
theorem own_ne {w : World} {B B' n n' sz sz' : Nat} {e e' : TypeId} {v v' : Value} {xs xs' : List Value} (h : w.ownsRow B e sz v n xs) (h' : w.ownsRow B' e' sz' v' n' xs') (he : e ≠ e') (k : Nat) (hk : v.ownBlock = some k) : v'.ownBlock ≠ some k := fun hk' => by
  obtain ⟨c, hc⟩ := own_blkT h hk
  obtain ⟨c', hc'⟩ := own_blkT h' hk'
  rw [hc] at hc'
  simp only [Option.some.injEq, Obj.cells.injEq] at hc'
  exact he hc'.2.1
theorem own_base {w : World} {B B' n sz : Nat} {e : TypeId} {v : Value} {xs : List Value} (h : w.ownsRow B e sz v n xs) (hb : ∀ k, v.ownBlock = some k → B' ≤ k) : w.ownsRow B' e sz v n xs := by
  refine ⟨h.1, ?_⟩
  rcases h.2 with h2 | ⟨g, cap, cur, rfl, h3, h4⟩
  · exact .inl h2
  · exact .inr ⟨g, cap, cur, rfl, hb g rfl, h4⟩
theorem BsAt.blks_lt {w : World} {v : Value} {R : List Bv} {B : Nat} (h : BsAt w v R B) {k : Nat} (hk : Blks v R k) : B ≤ k ∧ k < w.heap.size := by
  rcases hk with hk | ⟨x, hx, hk⟩
  · exact h.own.lt k hk
  · exact (h.lots x hx).lt k hk
theorem BsAt.same {w w' : World} {v : Value} {R : List Bv} {B : Nat} (h : BsAt w v R B) (hs : ∀ k, Blks v R k → w'.heap[k]? = w.heap[k]?) : BsAt w' v R B :=
  ⟨Any.ownsRow_same h.own fun k hk => hs k (.inl hk), fun x hx => Any.ownsRow_same (h.lots x hx) fun k hk => hs k (.inr ⟨x, hx, hk⟩), h.apart⟩
theorem BsAt.below {w w' : World} {v : Value} {R : List Bv} {B : Nat} (h : BsAt w v R B) (hb : Below w.heap.size w w') : BsAt w' v R B := h.same fun k hk => hb.block k (h.blks_lt hk).2
theorem BsAt.keep {w w' : World} {v : Value} {R : List Bv} {B : Nat} {F : Nat → Prop} (h : BsAt w v R B) (hk : Keep F w w') (hF : ∀ k, Blks v R k → ¬ F k) : BsAt w' v R B := h.same fun k hb => hk.block k (h.blks_lt hb).2 (hF k hb)
theorem BsAt.nil (w : World) (B : Nat) : BsAt w (.slice none 0 0) [] B := ⟨World.ownsRow_nil _ _ _ _, by simp, List.Pairwise.nil⟩
theorem BsAt.base {w : World} {v : Value} {R : List Bv} {B B' : Nat} (h : BsAt w v R B) (hB : B' ≤ B) : BsAt w v R B' := ⟨ownsRow_base h.own hB, fun x hx => ownsRow_base (h.lots x hx) hB, h.apart⟩
/-- A box's place in memory. -/
theorem BsAt.at {w : World} {v : Value} {R : List Bv} {B : Nat} (h : BsAt w v R B) {q : Nat} (hq : q < R.length) :
    ∃ g cap cur, v = .slice (some ⟨g, 0, none⟩) R.length cap ∧ w.heap[g]? = some (.cells cur 96 (0, 0)) ∧ R.length ≤ cap ∧ cap ≤ maxLen ∧ cur[q * 3]? = some (.string R[q].b.mark) ∧ cur[q * 3 + 1]? = some (.int .i64 R[q].b.kind) ∧ cur[q * 3 + 2]? = some R[q].v := by
  obtain ⟨h1, h2⟩ := h.own
  rcases h2 with ⟨_, h0⟩ | ⟨g, cap, cur, rfl, hB, hh, h3, h4, h5, h6⟩
  · omega
  have key : ∀ j u, j < R.length * 3 → (bvCells R)[j]? = some u → cur[j]? = some u := fun j u hj hu => by
    rw [← h6, List.getElem?_take, if_pos (by omega), Array.getElem?_toList] at hu
    exact hu
  obtain ⟨e0, e1, e2⟩ := bvCells_at hq
  exact ⟨g, cap, cur, rfl, hh, h3, h4, key _ _ (by omega) e0, key _ _ (by omega) e1, key _ _ (by omega) e2⟩
/-- One box's lots have grown. -/
theorem BsAt.fill {w w' : World} {R : List Bv} {B g cap : Nat} {cur : Array Value} (h : BsAt w (.slice (some ⟨g, 0, none⟩) R.length cap) R B) {q : Nat} (hq : q < R.length) (hh : w.heap[g]? = some (.cells cur 96 (0, 0))) {v' : Value} {L : List Lt} {n : Nat}
    (hr : w'.ownsRow 0 107 2 v' n (ltCells L)) (hn : n = L.length) (hb : w'.heap[g]? = some (.cells (cur.setIfInBounds (q * 3 + 2) v') 96 (0, 0))) (ho : ∀ b, v'.ownBlock = some b → R[q].v.ownBlock = some b ∨ w.heap.size ≤ b) (hB : B ≤ w.heap.size)
    (hk : Keep (fun k => k = g ∨ R[q].v.ownBlock = some k) w w') : BsAt w' (.slice (some ⟨g, 0, none⟩) R.length cap) (R.set q ⟨{ R[q].b with lots := L }, v'⟩) B := by
  subst hn
  have hqm := h.lots _ (List.getElem_mem hq)
  refine ⟨?_, fun x hx => ?_, ?_⟩
  · have h1 := own_cell h.own (q * 3 + 2) v'
    rw [bvCells_setv hq L v'] at h1
    rw [List.length_set]
    refine Any.ownsRow_same h1 fun b hb' => ?_
    obtain rfl : g = b := Option.some.inj hb'
    rw [hb]
    simp [World.setCell, Array.getElem?_modify, hh]
  · obtain ⟨i, hi, rfl⟩ := List.getElem_of_mem hx
    rw [List.length_set] at hi
    by_cases e : q = i
    · subst e
      rw [List.getElem_set_self]
      exact own_base hr fun b hb' => (ho b hb').elim (fun h2 => (hqm.lt b h2).1) (fun h2 => Nat.le_trans hB h2)
    · rw [List.getElem_set_ne e]
      have hi' := h.lots _ (List.getElem_mem hi)
      refine Any.ownsRow_same hi' fun b hb' => hk.block b (hi'.lt b hb').2 fun hF => ?_
      rcases hF with rfl | hF
      · exact own_ne h.own hi' (by decide) b rfl hb'
      · rcases Nat.lt_or_gt_of_ne e with h2 | h2
        · exact List.pairwise_iff_getElem.1 h.apart q i hq hi h2 b hF hb'
        · exact List.pairwise_iff_getElem.1 h.apart i q hi hq h2 b hb' hF
  · rw [List.pairwise_iff_getElem]
    intro i j hi hj hij k h1 h2
    rw [List.length_set] at hi hj
    have hap := List.pairwise_iff_getElem.1 h.apart
    by_cases e1 : q = i
    · subst e1
      rw [List.getElem_set_self] at h1
      rw [List.getElem_set_ne (by omega)] at h2
      rcases ho k h1 with h3 | h3
      · exact hap q j hi hj hij k h3 h2
      · have := ((h.lots _ (List.getElem_mem hj)).lt k h2).2
        omega
    · rw [List.getElem_set_ne e1] at h1
      by_cases e2 : q = j
      · subst e2
        rw [List.getElem_set_self] at h2
        rcases ho k h2 with h3 | h3
        · exact hap i q hi hj hij k h1 h3
        · have := ((h.lots _ (List.getElem_mem hi)).lt k h1).2
          omega
      · rw [List.getElem_set_ne e2] at h2
        exact hap i j hi hj hij k h1 h2
/-- One box more. -/
theorem BsAt.push {w w' : World} {v v' : Value} {R : List Bv} {B : Nat} {x : Bv} (h : BsAt w v R B) (hx : w.ownsRow B 107 2 x.v x.b.lots.length (ltCells x.b.lots)) (hap : ∀ y ∈ R, ∀ k, y.v.ownBlock = some k → x.v.ownBlock ≠ some k)
    (ho : w'.ownsRow B 96 3 v' (R.length + 1) (bvCells R ++ x.cells)) (hg : w.grownBy w' v.ownBlock) : BsAt w' v' (R ++ [x]) B := by
  have hk : ∀ y : Bv, w.ownsRow B 107 2 y.v y.b.lots.length (ltCells y.b.lots) → w'.ownsRow B 107 2 y.v y.b.lots.length (ltCells y.b.lots) := fun y hy => Any.ownsRow_same hy fun b hb => hg.block b (hy.lt b hb).2 fun e => own_ne h.own hy (by decide) b e.symm hb
  refine ⟨?_, fun y hy => ?_, ?_⟩
  · rw [bvCells_append, List.length_append]
    simpa [bvCells] using ho
  · rcases List.mem_append.1 hy with hy | hy
    · exact hk y (h.lots y hy)
    · rw [List.mem_singleton.1 hy]; exact hk x hx
  · rw [List.pairwise_append]
    refine ⟨h.apart, List.pairwise_singleton _ _, fun y hy z hz => ?_⟩
    rw [List.mem_singleton.1 hz]
    exact hap y hy
/-- One box's mark written. -/
theorem BsAt.setMark {w w' : World} {R : List Bv} {B g cap : Nat} {cur : Array Value} (h : BsAt w (.slice (some ⟨g, 0, none⟩) R.length cap) R B) {q : Nat} (hq : q < R.length) (hh : w.heap[g]? = some (.cells cur 96 (0, 0))) (m : ByteArray)
    (hb : w'.heap[g]? = some (.cells (cur.setIfInBounds (q * 3) (.string m)) 96 (0, 0))) (hk : Keep (fun k => k = g) w w') : BsAt w' (.slice (some ⟨g, 0, none⟩) R.length cap) (R.set q ⟨{ R[q].b with mark := m }, R[q].v⟩) B := by
  have hv : ∀ i (hi : i < R.length), ((R.set q ⟨{ R[q].b with mark := m }, R[q].v⟩)[i]'(by rw [List.length_set]; exact hi)).v = R[i].v ∧ ((R.set q ⟨{ R[q].b with mark := m }, R[q].v⟩)[i]'(by rw [List.length_set]; exact hi)).b.lots = R[i].b.lots := fun i hi => by
    by_cases e : q = i
    · subst e; rw [List.getElem_set_self]; exact ⟨rfl, rfl⟩
    · rw [List.getElem_set_ne e]; exact ⟨rfl, rfl⟩
  refine ⟨?_, fun x hx => ?_, ?_⟩
  · have h1 := own_cell h.own (q * 3) (.string m)
    rw [bvCells_setm hq m] at h1
    rw [List.length_set]
    refine Any.ownsRow_same h1 fun b hb' => ?_
    obtain rfl : g = b := Option.some.inj hb'
    rw [hb]
    simp [World.setCell, Array.getElem?_modify, hh]
  · obtain ⟨i, hi, rfl⟩ := List.getElem_of_mem hx
    rw [List.length_set] at hi
    rw [(hv i hi).1, (hv i hi).2]
    have hi' := h.lots _ (List.getElem_mem hi)
    refine Any.ownsRow_same hi' fun b hb' => hk.block b (hi'.lt b hb').2 fun hF => ?_
    subst hF
    exact own_ne h.own hi' (by decide) b rfl hb'
  · rw [List.pairwise_iff_getElem]
    intro i j hi hj hij k h1
    rw [List.length_set] at hi hj
    rw [(hv i hi).1] at h1
    rw [(hv j hj).1]
    exact List.pairwise_iff_getElem.1 h.apart i j hi hj hij k h1
/-- Lots of boxes are few. -/
def LotsMax (N : Nat) (bs : List Bx) : Prop := ∀ b ∈ bs, b.lots.length ≤ N
theorem fillB_max {t : List Gd} {g : ByteArray} {N : Nat} : ∀ (bs : List Bx) (c : Int), LotsMax N bs → LotsMax (N + 1) (fillB t g bs c).1
  | [], _, _ => by intro b hb; cases hb
  | x :: r, c, h => by
    intro b hb
    simp only [fillB] at hb
    rcases List.mem_cons.1 hb with rfl | hb
    · have := h x List.mem_cons_self
      split
      · simp only [List.length_append, List.length_cons, List.length_nil]; omega
      · omega
    · exact fillB_max r _ (fun y hy => h y (List.mem_cons_of_mem _ hy)) b hb
theorem newB_max {t : List Gd} {g : ByteArray} {N : Nat} : ∀ (f : Nat) (bs : List Bx) (c : Int), LotsMax (N + 1) bs → LotsMax (N + 1) (newB t g f bs c).2
  | 0, bs, _, h => h
  | f + 1, bs, c, h => by
    rw [newB]
    split
    · exact h
    · split
      · intro b hb; cases hb
      · split
        · intro b hb; cases hb
        · refine newB_max f _ _ fun b hb => ?_
          rcases List.mem_append.1 hb with hb | hb
          · exact h b hb
          · rw [List.mem_singleton.1 hb]; simp
theorem addB_max {t : List Gd} {x : Lt} {N : Nat} {bs : List Bx} (h : LotsMax N bs) : LotsMax (N + 1) (addB t x bs).2 := newB_max _ _ _ (fillB_max bs _ h)
theorem newB_len {t : List Gd} {g : ByteArray} : ∀ (f : Nat) (bs : List Bx) (c : Int), bs.length ≤ 64 → (newB t g f bs c).2.length ≤ 64
  | 0, bs, _, h => h
  | f + 1, bs, c, h => by
    rw [newB]
    split
    · exact h
    · split
      · simp
      · split
        · simp
        · exact newB_len f _ _ (by simp; omega)
theorem addB_len {t : List Gd} {x : Lt} {bs : List Bx} (h : bs.length ≤ 64) : (addB t x bs).2.length ≤ 64 := newB_len _ _ _ (by rw [fillB_len]; exact h)
end Go.Proofs.YtbigoifpfkdkjaaGreatDoor.Sc
