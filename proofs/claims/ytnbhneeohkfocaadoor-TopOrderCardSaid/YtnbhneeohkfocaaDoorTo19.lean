/- The lots of a part; both parts together are the order; plainly. Consignments of one's own, as they lie in memory while an order is cut. An order cut anywhere: its two parts may be; plainly. And the rows in which they are made. -/
import Derived.Test.YtnbhneeohkfocaaDoorTo18
import Derived.Test.YtnbhneeohkfocaaDoorTo05
import Derived.Test.YtnbhneeohkfocaaDoorTo16
namespace Go.Proofs.YtnbhneeohkfocaaDoor.Sc
open Go Go.RowKit Go.ChangeShapes Go.WideShapes Go.ChangeAt
set_option maxRecDepth 100000

/-- The lots of a part, from line i on. -/
def lotsP : List Ln → Nat → (Nat → Int) → List Lt
  | [], _, _ => []
  | x :: r, i, q => (if 0 < q i then [⟨x.good, q i⟩] else []) ++ lotsP r (i + 1) q
theorem lotsP_app (a b : List Ln) : ∀ (i : Nat) (q : Nat → Int), lotsP (a ++ b) i q = lotsP a i q ++ lotsP b (i + a.length) q := by
  induction a with
  | nil => intro i q; simp [lotsP]
  | cons x r ih =>
    intro i q
    rw [List.cons_append, lotsP, lotsP, ih, List.append_assoc, List.length_cons, show i + (r.length + 1) = i + 1 + r.length by omega]
theorem lotsP_take {L : List Ln} {k : Nat} (h : k < L.length) (q : Nat → Int) : lotsP (L.take (k + 1)) 0 q = lotsP (L.take k) 0 q ++ (if 0 < q k then [⟨L[k].good, q k⟩] else []) := by
  rw [List.take_succ_eq_append_getElem h, lotsP_app]
  simp only [lotsP, List.append_nil, List.length_take, Nat.zero_add]
  rw [Nat.min_eq_left (Nat.le_of_lt h)]
theorem lotsP_len : ∀ (L : List Ln) (i : Nat) (q : Nat → Int), (lotsP L i q).length ≤ L.length
  | [], _, _ => by simp [lotsP]
  | x :: r, i, q => by
    have := lotsP_len r (i + 1) q
    rw [lotsP, List.length_append, List.length_cons]
    split <;> simp <;> omega
theorem lotsP_mem : ∀ {L : List Ln} {i : Nat} {q : Nat → Int} {y : Lt}, y ∈ lotsP L i q → ∃ k, ∃ h : k < L.length, y = ⟨L[k].good, q (i + k)⟩ ∧ 0 < q (i + k)
  | [], _, _, _, h => by simp [lotsP] at h
  | x :: r, i, q, y, h => by
    rw [lotsP, List.mem_append] at h
    rcases h with h | h
    · by_cases hq : 0 < q i
      · rw [if_pos hq, List.mem_singleton] at h
        subst h
        exact ⟨0, by simp, rfl, hq⟩
      · rw [if_neg hq] at h
        cases h
    · obtain ⟨k, hk, he, hp⟩ := lotsP_mem h
      refine ⟨k + 1, by simpa using hk, ?_, by rw [show i + (k + 1) = i + 1 + k by omega]; exact hp⟩
      rw [he, show i + (k + 1) = i + 1 + k by omega]
      rfl
/-- What a part is worth. -/
def wqO : List Ln → Nat → (Nat → Int) → Int
  | [], _, _ => 0
  | x :: r, i, q => q i * x.price + wqO r (i + 1) q
theorem valO_lotsP (L : List Ln) (hn : (L.map Ln.good).Nodup) : ∀ (M : List Ln) (i : Nat) (q : Nat → Int), (∀ x ∈ M, x ∈ L) → (∀ k, k < M.length → 0 ≤ q (i + k)) → valO L (lotsP M i q) = wqO M i q
  | [], _, _, _, _ => rfl
  | x :: r, i, q, hm, h0 => by
    have ih := valO_lotsP L hn r (i + 1) q (fun y hy => hm y (List.mem_cons_of_mem _ hy)) (fun k hk => by
      have := h0 (k + 1) (by simpa using hk)
      rwa [show i + (k + 1) = i + 1 + k by omega] at this)
    have hq := h0 0 (by simp)
    rw [Nat.add_zero] at hq
    rw [lotsP, valO_app, ih, wqO]
    by_cases hp : 0 < q i
    · rw [if_pos hp, valO, valO, prcO_of hn (hm x List.mem_cons_self)]
      simp
    · rw [if_neg hp, valO, show q i = 0 by omega]
      simp
theorem wqO_add : ∀ (M : List Ln) (i : Nat) (q r s : Nat → Int), (∀ k, k < M.length → q (i + k) + r (i + k) = s (i + k)) → wqO M i q + wqO M i r = wqO M i s
  | [], _, _, _, _, _ => rfl
  | x :: m, i, q, r, s, h => by
    have ih := wqO_add m (i + 1) q r s (fun k hk => by
      have := h (k + 1) (by simpa using hk)
      rwa [show i + (k + 1) = i + 1 + k by omega] at this)
    have h0 := h 0 (by simp)
    rw [Nat.add_zero] at h0
    rw [wqO, wqO, wqO, ← ih, ← h0, Int.add_mul]
    omega
theorem wqO_tot : ∀ (M : List Ln) (i : Nat) (q : Nat → Int), (∀ k (h : k < M.length), q (i + k) = M[k].cnt) → wqO M i q = totO M
  | [], _, _, _ => rfl
  | x :: m, i, q, h => by
    have ih := wqO_tot m (i + 1) q (fun k hk => by
      have := h (k + 1) (by simpa using hk)
      rw [show i + (k + 1) = i + 1 + k by omega] at this
      exact this)
    have h0 := h 0 (by simp)
    rw [Nat.add_zero] at h0
    rw [wqO, totO, ih, h0]
    rfl
theorem wqO_le : ∀ (M : List Ln) (i : Nat) (q : Nat → Int), (∀ x ∈ M, 0 ≤ x.price) → (∀ k (h : k < M.length), 0 ≤ q (i + k) ∧ q (i + k) ≤ M[k].cnt) → 0 ≤ wqO M i q ∧ wqO M i q ≤ totO M
  | [], _, _, _, _ => ⟨Int.le_refl _, Int.le_refl _⟩
  | x :: m, i, q, hp, h => by
    obtain ⟨i1, i2⟩ := wqO_le m (i + 1) q (fun y hy => hp y (List.mem_cons_of_mem _ hy)) (fun k hk => by
      have := h (k + 1) (by simpa using hk)
      rw [show i + (k + 1) = i + 1 + k by omega] at this
      exact this)
    have h0 := h 0 (by simp)
    rw [Nat.add_zero] at h0
    have hx := hp x List.mem_cons_self
    have h1 : 0 ≤ q i * x.price := Int.mul_nonneg h0.1 hx
    have h2 : q i * x.price ≤ x.cnt * x.price := Int.mul_le_mul_of_nonneg_right h0.2 hx
    rw [wqO, totO, Ln.worth]
    omega
/-- Both parts together, or the one part, are worth the total. -/
def sumV (n : Nat) (L : List Ln) (p : Nat → Nat → Int) : Int := sumN n fun i => valO L (lotsP L 0 (p i))
theorem sumV_tot {L : List Ln} {n : Nat} {p : Nat → Nat → Int} (h : LnsOk L) (hp : PtsOk L n p) : sumV n L p = totO L := by
  have hv : ∀ i, i < n → valO L (lotsP L 0 (p i)) = wqO L 0 (p i) := fun i hi => valO_lotsP L h.nd L 0 (p i) (fun _ hx => hx) (fun k hk => by rw [Nat.zero_add]; exact hp.nn i hi k hk)
  obtain rfl | rfl : n = 1 ∨ n = 2 := by have := hp.n1; have := hp.n2; omega
  · rw [sumV, sumN, sumN, hv 0 (by decide), Int.zero_add]
    refine wqO_tot L 0 _ fun k hk => ?_
    have := hp.tot k hk
    simp only [sumN] at this
    rw [Nat.zero_add]
    omega
  · rw [sumV, sumN, sumN, sumN, hv 0 (by decide), hv 1 (by decide), Int.zero_add]
    rw [wqO_add L 0 (p 0) (p 1) (fun j => p 0 j + p 1 j) (fun _ _ => rfl)]
    refine wqO_tot L 0 _ fun k hk => ?_
    have := hp.tot k hk
    simp only [sumN] at this
    rw [Nat.zero_add]
    omega
theorem part_le {L : List Ln} {n : Nat} {p : Nat → Nat → Int} (hp : PtsOk L n p) {i k : Nat} (hi : i < n) (hk : k < L.length) : 0 ≤ p i k ∧ p i k ≤ L[k].cnt := by
  refine ⟨hp.nn i hi k hk, ?_⟩
  have ht := hp.tot k hk
  obtain rfl | rfl : n = 1 ∨ n = 2 := by have := hp.n1; have := hp.n2; omega
  · obtain rfl : i = 0 := by omega
    simp only [sumN] at ht
    omega
  · have h0 := hp.nn 0 (by decide) k hk
    have h1 := hp.nn 1 (by decide) k hk
    simp only [sumN] at ht
    obtain rfl | rfl : i = 0 ∨ i = 1 := by omega
    · omega
    · omega
theorem valO_part {L : List Ln} {n : Nat} {p : Nat → Nat → Int} (h : LnsOk L) (hp : PtsOk L n p) {i : Nat} (hi : i < n) : 0 ≤ valO L (lotsP L 0 (p i)) ∧ valO L (lotsP L 0 (p i)) ≤ totO L := by
  rw [valO_lotsP L h.nd L 0 (p i) (fun _ hx => hx) (fun k hk => by rw [Nat.zero_add]; exact hp.nn i hi k hk)]
  exact wqO_le L 0 _ (fun x hx => (h.p0 x hx).1) (fun k hk => by rw [Nat.zero_add]; exact part_le hp hi hk)
theorem valO_nn {L : List Ln} (h : LnsOk L) : ∀ {l : List Lt}, (∀ y ∈ l, 0 ≤ y.cnt) → 0 ≤ valO L l
  | [], _ => Int.le_refl _
  | y :: r, hy => by
    have i1 := valO_nn h (l := r) fun z hz => hy z (List.mem_cons_of_mem _ hz)
    have h1 := hy y List.mem_cons_self
    have h2 : 0 ≤ prcO L y.good := by
      unfold prcO
      split
      · rename_i z hz
        exact (h.p0 z (List.mem_of_find?_eq_some hz)).1
      · exact Int.le_refl _
    have := Int.mul_nonneg h1 h2
    rw [valO]
    omega
/-- Lots of a part may be. -/
theorem lotsP_ok {L : List Ln} {n : Nat} {p : Nat → Nat → Int} (h : LnsOk L) (hp : PtsOk L n p) {i : Nat} (hi : i < n) : ∀ y ∈ lotsP L 0 (p i), (nameOk y.good = true ∧ cntO y.cnt = true) ∧ ∃ z ∈ L, z.good = y.good := by
  intro y hy
  obtain ⟨k, hk, rfl, h0⟩ := lotsP_mem hy
  rw [Nat.zero_add] at h0
  have h1 := (part_le hp hi hk).2
  have h2 := (h.c0 _ (List.getElem_mem hk)).2
  refine ⟨⟨h.nm _ (List.getElem_mem hk), ?_⟩, L[k], List.getElem_mem hk, rfl⟩
  simp only [Nat.zero_add, cntO, Bool.and_eq_true, decide_eq_true_eq]
  omega
/-- Nothing is left. -/
theorem posTot_lotsP (g : ByteArray) : ∀ (M : List Ln) (i : Nat) (q r : Nat → Int), (∀ k (h : k < M.length), 0 ≤ q (i + k) ∧ 0 ≤ r (i + k) ∧ q (i + k) + r (i + k) = M[k].cnt) → posTot (lotsP M i q) g + posTot (lotsP M i r) g = posTot (M.map Ln.lot) g
  | [], _, _, _, _ => rfl
  | x :: m, i, q, r, h => by
    have ih := posTot_lotsP g m (i + 1) q r (fun k hk => by
      have := h (k + 1) (by simpa using hk)
      rw [show i + (k + 1) = i + 1 + k by omega] at this
      exact this)
    have h0 := h 0 (by simp)
    rw [Nat.add_zero] at h0
    obtain ⟨a1, a2, a3⟩ := h0
    have a3 : q i + r i = x.cnt := a3
    rw [lotsP, lotsP, posTot_append, posTot_append, List.map_cons, show Ln.lot x :: m.map Ln.lot = [Ln.lot x] ++ m.map Ln.lot from rfl, posTot_append, ← ih]
    have e : posTot (if 0 < q i then [(⟨x.good, q i⟩ : Lt)] else []) g + posTot (if 0 < r i then [(⟨x.good, r i⟩ : Lt)] else []) g = posTot [Ln.lot x] g := by
      have e1 : ∀ (c : Int), 0 ≤ c → posTot (if 0 < c then [(⟨x.good, c⟩ : Lt)] else []) g = if x.good = g then c else 0 := fun c hc => by
        by_cases hp : 0 < c
        · rw [if_pos hp]
          by_cases hg : x.good = g
          · simp [posTot, hg, hp]
          · simp [posTot, hg]
        · rw [if_neg hp, show c = 0 by omega]
          simp [posTot]
      have e2 : posTot [Ln.lot x] g = if x.good = g then x.cnt else 0 := by
        have := e1 x.cnt (by omega)
        by_cases hp : 0 < x.cnt
        · rw [if_pos hp] at this
          exact this
        · have hz : x.cnt = 0 := by omega
          simp [posTot, Ln.lot, hz]
      rw [e1 _ a1, e1 _ a2, e2]
      split <;> omega
    omega
/-- What is sent, of the parts. -/
def sentP (n : Nat) (L : List Ln) (p : Nat → Nat → Int) : List Lt := (List.range n).flatMap fun i => lotsP L 0 (p i)
theorem sentP_tot {L : List Ln} {n : Nat} {p : Nat → Nat → Int} (hp : PtsOk L n p) (g : ByteArray) : posTot (sentP n L p) g = posTot (L.map Ln.lot) g := by
  obtain rfl | rfl : n = 1 ∨ n = 2 := by have := hp.n1; have := hp.n2; omega
  · have hz : posTot (lotsP L 0 fun _ => 0) g = 0 := by
      have : ∀ (M : List Ln) (i : Nat), lotsP M i (fun _ => 0) = [] := by
        intro M
        induction M with
        | nil => intro i; rfl
        | cons x m ih => intro i; simp [lotsP, ih]
      rw [this]; rfl
    have := posTot_lotsP g L 0 (p 0) (fun _ => 0) (fun k hk => by
      have h1 := hp.nn 0 (by decide) k hk
      have h2 := hp.tot k hk
      simp only [sumN] at h2
      rw [Nat.zero_add]
      omega)
    rw [hz] at this
    have e : sentP 1 L p = lotsP L 0 (p 0) := by simp [sentP]
    rw [e]
    omega
  · have := posTot_lotsP g L 0 (p 0) (p 1) (fun k hk => by
      have h1 := hp.nn 0 (by decide) k hk
      have h3 := hp.nn 1 (by decide) k hk
      have h2 := hp.tot k hk
      simp only [sumN] at h2
      rw [Nat.zero_add]
      omega)
    have e : sentP 2 L p = lotsP L 0 (p 0) ++ lotsP L 0 (p 1) := by simp [sentP, List.range_succ]
    rw [e, posTot_append]
    omega
theorem left_none {l m : List Lt} (h : ∀ g, posTot m g = posTot l g) : canTake l m ∧ leftL l m = [] := by
  have hc : canTake l m := fun n => by rw [h n]; exact Int.le_refl _
  refine ⟨hc, norm_ext (leftL_norm hc) ?_ fun n => ?_⟩
  · have := leftL_norm (l := []) (m := []) (fun _ => Int.le_refl _)
    exact this
  · rw [leftL_tot hc, h n]
    have : posTot [] n = 0 := rfl
    omega
end Go.Proofs.YtnbhneeohkfocaaDoor.Sc
namespace Go.Proofs.YtnbhneeohkfocaaDoor.Sc
open Go Go.RowKit Go.ChangeShapes Go.WideShapes Go.ChangeAt
set_option maxRecDepth 100000

theorem infoCon : (Tryd.prog.info? 43).map (fun i => (i.zero, i.size, i.bytes)) = some (some (.agg #[.string ⟨#[]⟩, .int .i64 0, .int .i64 0, .slice none 0 0]), 4, 56) := by kernel_rfl
theorem own_raise {w : World} {B n sz : Nat} {e : TypeId} {v : Value} {xs : List Value} (h : w.ownsRow 0 e sz v n xs) (hb : ∀ b, v.ownBlock = some b → B ≤ b) : w.ownsRow B e sz v n xs := by
  refine ⟨h.1, ?_⟩
  rcases h.2 with h | ⟨g, cap, cur, rfl, h1, h2⟩
  · exact .inl h
  · exact .inr ⟨g, cap, cur, rfl, hb g rfl, h2⟩
theorem own_blkO {w : World} {B n sz : Nat} {e : TypeId} {v : Value} {xs : List Value} {b : Nat} (h : w.ownsRow B e sz v n xs) (hb : v.ownBlock = some b) : ∃ c, w.heap[b]? = some (.cells c e (0, 0)) := by
  rcases h.2 with ⟨rfl, _⟩ | ⟨g, cap, cur, rfl, _, hh, _⟩
  · cases hb
  · obtain rfl : g = b := Option.some.inj hb
    exact ⟨cur, hh⟩
theorem own_offO {w : World} {B n sz b : Nat} {e T : TypeId} {v : Value} {xs : List Value} {cs : Array Value} {fr : Nat × Nat} (h : w.ownsRow B e sz v n xs) (hb : w.heap[b]? = some (.cells cs T fr)) (hne : e ≠ T) : ¬ v.ownBlock = some b := fun hv => by
  obtain ⟨c, hc⟩ := own_blkO h hv
  rw [hb] at hc
  simp only [Option.some.injEq, Obj.cells.injEq] at hc
  exact hne hc.2.1.symm
theorem own_shpO {w : World} {B : Nat} {e : TypeId} {size n : Nat} {v : Value} {xs : List Value} (h : w.ownsRow B e size v n xs) : ∃ a c, v = .slice a n c := by
  rcases h.2 with ⟨h1, h2⟩ | ⟨g, cap, cur, h1, _⟩
  · subst h2; exact ⟨_, _, h1⟩
  · exact ⟨_, _, h1⟩
/-- The first consignments of a cut, in memory. -/
structure CsAt (W : World) (B : Nat) (s0 : ByteArray) (L : List Ln) (p : Nat → Nat → Int) (v : Value) (lc : List Con) : Prop where
  own : W.ownsRow B 43 4 v lc.length (conCells lc)
  get : ∀ i (h : i < lc.length), lc[i].nm = s0 ∧ Sl W 2 lc[i].lots ((lotsP L 0 (p i)).map Lt.row) ∧ ∀ b, lc[i].lots.ownBlock = some b → b < W.heap.size ∧ ¬ v.ownBlock = some b
section
variable {W W' : World} {B : Nat} {s0 : ByteArray} {L : List Ln} {p : Nat → Nat → Int} {v v' : Value} {lc : List Con}
theorem CsAt.below (h : CsAt W B s0 L p v lc) (hb : Below W.heap.size W W') : CsAt W' B s0 L p v lc :=
  ⟨ownsRow_below h.own hb, fun i hi => ⟨(h.get i hi).1, (h.get i hi).2.1.below hb (Nat.le_refl _), fun b e => ⟨Nat.lt_of_lt_of_le ((h.get i hi).2.2 b e).1 hb.size, ((h.get i hi).2.2 b e).2⟩⟩⟩
theorem CsAt.base {B' : Nat} (h : CsAt W B s0 L p v lc) (hB : B' ≤ B) : CsAt W B' s0 L p v lc := ⟨ownsRow_base h.own hB, h.get⟩
theorem CsAt.push (h : CsAt W B s0 L p v lc) (x : Con) (h1 : x.nm = s0) (h2 : Sl W 2 x.lots ((lotsP L 0 (p lc.length)).map Lt.row)) (h3 : ∀ b, x.lots.ownBlock = some b → b < W.heap.size ∧ ¬ v.ownBlock = some b)
    (ho : W'.ownsRow B 43 4 v' (lc.length + 1) (conCells lc ++ x.cells.toList)) (hg : W.grownBy W' v.ownBlock) (hw : ∀ b, v'.ownBlock = some b → v.ownBlock = some b ∨ W.heap.size ≤ b) : CsAt W' B s0 L p v' (lc ++ [x]) := by
  have hk := Keep.of_grown hg
  refine ⟨by simpa [conCells_append, conCells, Con.row] using ho, fun i hi => ?_⟩
  have go : ∀ (y : Con), (∀ b, y.lots.ownBlock = some b → b < W.heap.size ∧ ¬ v.ownBlock = some b) → ∀ b, y.lots.ownBlock = some b → b < W'.heap.size ∧ ¬ v'.ownBlock = some b := fun y g3 b e => by
    refine ⟨Nat.lt_of_lt_of_le (g3 b e).1 hg.size, fun e' => ?_⟩
    rcases hw b e' with h6 | h6
    · exact (g3 b e).2 h6
    · have := (g3 b e).1; omega
  by_cases h5 : i < lc.length
  · rw [List.getElem_append_left h5]
    obtain ⟨g1, g2, g3⟩ := h.get i h5
    exact ⟨g1, g2.keep hk (fun b hb e => (g3 b hb).2 e), go _ g3⟩
  · obtain rfl : i = lc.length := by simp at hi; omega
    rw [List.getElem_append_right (Nat.le_refl _)]
    simp only [Nat.sub_self, List.getElem_cons_zero]
    exact ⟨h1, h2.keep hk (fun b hb e => (h3 b hb).2 e), go _ h3⟩
end
/-- While one part is taken: its box, its lots. -/
structure CuI (wo W : World) (bg : Nat) (s0 : ByteArray) (num lat : Int) (vl : Value) (lots : List Lt) : Prop where
  below : Below wo.heap.size wo W
  box : W.heap[bg]? = some (.cells #[.string s0, .int .i64 num, .int .i64 lat, vl] 43 (0, 0))
  own : W.ownsRow wo.heap.size 59 2 vl lots.length (ltCells lots)
  lo : wo.heap.size ≤ bg
theorem CuI.on {wo W W' : World} {bg : Nat} {s0 : ByteArray} {num lat : Int} {vl : Value} {lots : List Lt} (h : CuI wo W bg s0 num lat vl lots) (hb : Below W.heap.size W W') : CuI wo W' bg s0 num lat vl lots :=
  ⟨h.below.trans (hb.mono h.below.size), blk hb (lt_blk h.box) h.box, ownsRow_below h.own hb, h.lo⟩
theorem own_nilO (w : World) (B : Nat) (e : TypeId) (sz : Nat) : w.ownsRow B e sz (.slice none 0 0) 0 [] := ⟨by simp, .inl ⟨rfl, rfl⟩⟩
/-- A lot behind the others. -/
theorem CuI.more {wo W W' : World} {bg : Nat} {s0 : ByteArray} {num lat : Int} {vl v' : Value} {lots : List Lt} {x : Lt} (h : CuI wo W bg s0 num lat vl lots) (hk : Keep (fun k => k = bg ∨ vl.ownBlock = some k) W W')
    (h1 : W'.ownsRow 0 59 2 v' (lots.length + 1) (ltCells lots ++ x.row)) (h2 : W'.heap[bg]? = some (.cells #[.string s0, .int .i64 num, .int .i64 lat, v'] 43 (0, 0)))
    (h3 : ∀ b, v'.ownBlock = some b → W.heap.size ≤ b ∨ b = bg ∨ vl.ownBlock = some b) : CuI wo W' bg s0 num lat v' (lots ++ [x]) := by
  have hn := own_offO h1 h2 (by decide)
  refine ⟨hk.behind h.below h.below.size (fun k hk' hh => hh.elim (fun e => by have := h.lo; omega) (fun e => by have := (h.own.lt k e).1; omega)), h2, ?_, h.lo⟩
  have h4 := own_raise (B := wo.heap.size) h1 (fun b hb => by
    rcases h3 b hb with h6 | h6 | h6
    · exact Nat.le_trans h.below.size h6
    · subst h6; exact absurd hb hn
    · exact (h.own.lt b h6).1)
  rw [List.length_append, ltCells_append]
  exact h4
end Go.Proofs.YtnbhneeohkfocaaDoor.Sc
namespace Go.Proofs.YtnbhneeohkfocaaDoor.Sc
open Go Go.RowKit Go.ChangeShapes Go.WideShapes Go.ChangeAt
set_option maxRecDepth 100000

/-- How many of a line go into the first part, and into the second. -/
def fstO (L : List Ln) (cs : List Int) (j : Nat) : Int := match L[j]? with | some x => x.cnt * cs.getD (j % cs.length) 0 / 256 | none => 0
def sndO (L : List Ln) (cs : List Int) (j : Nat) : Int := match L[j]? with | some x => x.cnt - fstO L cs j | none => 0
def cntF (L : List Ln) (j : Nat) : Int := match L[j]? with | some x => x.cnt | none => 0
theorem fstO_at {L : List Ln} {cs : List Int} {j : Nat} (h : j < L.length) (hc : j % cs.length < cs.length) : fstO L cs j = L[j].cnt * cs[j % cs.length] / 256 := by
  simp only [fstO, List.getElem?_eq_getElem h, getD_lt hc]
theorem sndO_at {L : List Ln} {cs : List Int} {j : Nat} (h : j < L.length) : sndO L cs j = L[j].cnt - fstO L cs j := by
  simp only [sndO, List.getElem?_eq_getElem h]
theorem cntF_at {L : List Ln} {j : Nat} (h : j < L.length) : cntF L j = L[j].cnt := by
  simp only [cntF, List.getElem?_eq_getElem h]
theorem fst_bd {L : List Ln} {cs : List Int} (h : LnsOk L) (hl : 1 ≤ cs.length) (hc : ∀ x ∈ cs, 0 ≤ x ∧ x ≤ 255) {j : Nat} (hj : j < L.length) : 0 ≤ fstO L cs j ∧ fstO L cs j < L[j].cnt := by
  have hm : j % cs.length < cs.length := Nat.mod_lt _ (by omega)
  rw [fstO_at hj hm]
  have h1 := hc _ (List.getElem_mem hm)
  have h2 := h.c0 _ (List.getElem_mem hj)
  generalize cs[j % cs.length] = x at *
  generalize L[j].cnt = c at *
  have h3 : c * x ≤ c * 255 := Int.mul_le_mul_of_nonneg_left h1.2 (by omega)
  have h4 : 0 ≤ c * x := Int.mul_nonneg (by omega) h1.1
  generalize c * x = m at *
  omega
/-- The two parts. -/
def twoP (L : List Ln) (cs : List Int) (i j : Nat) : Int := if i = 0 then fstO L cs j else sndO L cs j
def oneP (L : List Ln) (_ j : Nat) : Int := cntF L j
theorem sumQ_zero {f : Nat → Int} : ∀ {n : Nat}, (∀ j, j < n → f j = 0) → sumQ f n = 0
  | 0, _ => rfl
  | n + 1, h => by rw [sumQ, sumQ_zero fun j hj => h j (by omega), h n (by omega)]; rfl
theorem two_ok {L : List Ln} {cs : List Int} (h : LnsOk L) (hl : 1 ≤ cs.length) (hc : ∀ x ∈ cs, 0 ≤ x ∧ x ≤ 255) (h0 : sumQ (fstO L cs) L.length ≠ 0) : PtsOk L 2 (twoP L cs) := by
  refine ⟨by decide, by decide, fun i _ j hj => ?_, fun i hi => ?_, fun j hj => ?_⟩
  · have h1 := fst_bd h hl hc hj
    unfold twoP
    rw [sndO_at hj]
    split <;> omega
  · unfold twoP
    by_cases hz : i = 0
    · refine Classical.byContradiction fun hn => h0 (sumQ_zero fun j hj => Classical.byContradiction fun hne => hn ⟨j, hj, ?_⟩)
      rw [if_pos hz]
      exact hne
    · have h1 := fst_bd h hl hc (j := 0) (by have := h.lo; omega)
      refine ⟨0, by have := h.lo; omega, ?_⟩
      rw [if_neg hz, sndO_at (by have := h.lo; omega)]
      omega
  · simp only [sumN, twoP, if_true, Nat.one_ne_zero, if_false]
    rw [sndO_at hj]
    omega
theorem one_ok {L : List Ln} (h : LnsOk L) : PtsOk L 1 (oneP L) := by
  refine ⟨by decide, by decide, fun i _ j hj => ?_, fun i hi => ⟨0, by have := h.lo; omega, ?_⟩, fun j hj => ?_⟩
  · rw [oneP, cntF_at hj]; have := h.c0 _ (List.getElem_mem hj); omega
  · rw [oneP, cntF_at (by have := h.lo; omega)]; have := h.c0 _ (List.getElem_mem (show 0 < L.length by have := h.lo; omega)); omega
  · simp only [sumN, oneP]
    rw [cntF_at hj]
    omega
theorem snd_pos {L : List Ln} {cs : List Int} (h : LnsOk L) (hl : 1 ≤ cs.length) (hc : ∀ x ∈ cs, 0 ≤ x ∧ x ≤ 255) : 1 ≤ sumQ (sndO L cs) L.length := by
  have := sumQ_pos (f := sndO L cs) (n := L.length) fun j hj => by
    have h1 := fst_bd h hl hc hj
    rw [sndO_at hj]
    omega
  have := h.lo
  omega
theorem sumQ_bd {f : Nat → Int} {B : Int} : ∀ {n : Nat}, (∀ j, j < n → 0 ≤ f j ∧ f j ≤ B) → 0 ≤ sumQ f n ∧ sumQ f n ≤ B * n
  | 0, _ => by simp [sumQ]
  | n + 1, h => by
    have h1 := sumQ_bd (f := f) (B := B) (n := n) fun j hj => h j (by omega)
    have h2 := h n (by omega)
    rw [sumQ]
    have : B * ((n + 1 : Nat) : Int) = B * n + B := by rw [Int.natCast_add, Int.mul_add]; simp
    omega
/-- Two rows of numbers, in whatever order they were made. -/
structure Fa (w wr : World) (q1 q2 n : Nat) (P R : Array Value) : Prop where
  below : Below w.heap.size w wr
  hp : wr.heap[q1]? = some (.cells P 3 (0, 0))
  hr : wr.heap[q2]? = some (.cells R 3 (0, 0))
  l1 : w.heap.size ≤ q1
  l2 : w.heap.size ≤ q2
  ne : q1 ≠ q2
  sp : P.size = n
  sr : R.size = n
section
variable {w wr : World} {q1 q2 n : Nat} {P R : Array Value}
theorem Fa.on (h : Fa w wr q1 q2 n P R) {w' : World} (hb : Below wr.heap.size wr w') : Fa w w' q1 q2 n P R :=
  ⟨h.below.trans (hb.mono h.below.size), blk hb (lt_blk h.hp) h.hp, blk hb (lt_blk h.hr) h.hr, h.l1, h.l2, h.ne, h.sp, h.sr⟩
theorem Fa.drew (h : Fa w wr q1 q2 n P R) : Fa w wr.drew q1 q2 n P R := ⟨h.below.drew, h.hp, h.hr, h.l1, h.l2, h.ne, h.sp, h.sr⟩
theorem Fa.setP (h : Fa w wr q1 q2 n P R) (k : Nat) (u : Value) : Fa w (wr.setCell ⟨q1, k, none⟩ u) q1 q2 n (P.setIfInBounds k u) R := by
  exact ⟨h.below.setCell (p := ⟨q1, k, none⟩) h.l1 u, set_raw4 h.hp k u, (Below.heap_setCell wr ⟨q1, k, none⟩ u q2 (fun e => h.ne e.symm)).trans h.hr, h.l1, h.l2, h.ne, by simp [h.sp], h.sr⟩
theorem Fa.setR (h : Fa w wr q1 q2 n P R) (k : Nat) (u : Value) : Fa w (wr.setCell ⟨q2, k, none⟩ u) q1 q2 n P (R.setIfInBounds k u) := by
  exact ⟨h.below.setCell (p := ⟨q2, k, none⟩) h.l2 u, (Below.heap_setCell wr ⟨q2, k, none⟩ u q1 h.ne).trans h.hp, set_raw4 h.hr k u, h.l1, h.l2, h.ne, h.sp, by simp [h.sr]⟩
theorem Fa.swap (h : Fa w wr q1 q2 n P R) : Fa w wr q2 q1 n R P := ⟨h.below, h.hr, h.hp, h.l2, h.l1, fun e => h.ne e.symm, h.sr, h.sp⟩
theorem fa_made (w : World) (n : Nat) : Fa w ((w.alloc (.cells (madeCells #[.int .i64 0] n) 3)).alloc (.cells (madeCells #[.int .i64 0] n) 3)) w.heap.size (w.heap.size + 1) n (madeCells #[.int .i64 0] n) (madeCells #[.int .i64 0] n) := by
  refine ⟨(one_below _ _).trans ((one_below _ _).mono (by simp)), blk (one_below _ _) (by simp) (heap_alloc_new _ _), ?_, Nat.le_refl _, by omega, by omega, size_madeCells _ _, size_madeCells _ _⟩
  have := heap_alloc_new (w.alloc (.cells (madeCells #[.int .i64 0] n) 3)) (.cells (madeCells #[.int .i64 0] n) 3)
  simpa using this
end
/-- The counts of the first lines, as cells. -/
def icells (L : List Ln) (k : Nat) : List Value := ((List.range k).map (cntF L)).map fun x => .int .i64 x
theorem icells_succ (L : List Ln) (k : Nat) : icells L (k + 1) = icells L k ++ [.int .i64 (cntF L k)] := by simp [icells, List.range_succ]
/-- The one part, while it is made. -/
structure PaI (wp W : World) (pb : Nat) (vq : Value) (L : List Ln) (k : Nat) : Prop where
  below : Below wp.heap.size wp W
  box : W.heap[pb]? = some (.cells #[vq] 32 (0, 0))
  own : W.ownsRow wp.heap.size 3 1 vq k (icells L k)
  lo : wp.heap.size ≤ pb
theorem PaI.on {wp W W' : World} {pb k : Nat} {vq : Value} {L : List Ln} (h : PaI wp W pb vq L k) (hb : Below W.heap.size W W') : PaI wp W' pb vq L k :=
  ⟨h.below.trans (hb.mono h.below.size), blk hb (lt_blk h.box) h.box, ownsRow_below h.own hb, h.lo⟩
theorem PaI.more {wp W W' : World} {pb k : Nat} {vq v' : Value} {L : List Ln} (h : PaI wp W pb vq L k) (hk : Keep (fun b => b = pb ∨ vq.ownBlock = some b) W W')
    (h1 : W'.ownsRow 0 3 1 v' (k + 1) (icells L k ++ [.int .i64 (cntF L k)])) (h2 : W'.heap[pb]? = some (.cells #[v'] 32 (0, 0)))
    (h3 : ∀ b, v'.ownBlock = some b → W.heap.size ≤ b ∨ b = pb ∨ vq.ownBlock = some b) : PaI wp W' pb v' L (k + 1) := by
  have hn := own_offO h1 h2 (by decide)
  refine ⟨hk.behind h.below h.below.size (fun b hb hh => hh.elim (fun e => by have := h.lo; omega) (fun e => by have := (h.own.lt b e).1; omega)), h2, ?_, h.lo⟩
  rw [icells_succ]
  exact own_raise h1 (fun b hb => by
    rcases h3 b hb with h6 | h6 | h6
    · exact Nat.le_trans h.below.size h6
    · subst h6; exact absurd hb hn
    · exact (h.own.lt b h6).1)
theorem icells_flat (L : List Ln) (k : Nat) : icells L k = (((List.range k).map (cntF L)).map nRow).flatten := by
  unfold icells
  generalize (List.range k).map (cntF L) = l
  induction l with
  | nil => rfl
  | cons x r ih => rw [List.map_cons, List.map_cons, List.flatten_cons, ih]; rfl
/-- .. and behind it, it is a part that an order is cut by. -/
theorem PaI.part {wp W : World} {pb : Nat} {vq : Value} {L : List Ln} (h : PaI wp W pb vq L L.length) (h0 : 1 ≤ L.length) : PtAt W pb 0 1 L.length (oneP L) := by
  have ho := h.own
  rw [icells_flat] at ho
  have hs := own_sl ho (by simp) (fun r hr => by obtain ⟨x, -, rfl⟩ := List.mem_map.1 hr; rfl)
  obtain ⟨a, c, hv⟩ := hs.shape
  rw [List.length_map, List.length_map, List.length_range] at hv
  subst hv
  obtain ⟨b, off, rfl, -, -, hc⟩ := hs.at (i := 0) (by simp only [List.length_map, List.length_range]; omega)
  intro i hi
  obtain rfl : i = 0 := by omega
  refine ⟨b, off, c, cell_blk h.box 0, fun j hj => ?_⟩
  have := hc j (nRow (cntF L j)) (by simp [hj]) 0 _ rfl
  rw [Nat.mul_one] at this
  exact this
/-- The two parts are such as well. -/
theorem two_part {w W : World} {pb q1 q2 : Nat} {L : List Ln} {cs : List Int} {P R : Array Value} (hb : W.heap[pb]? = some (.cells #[.slice (some ⟨q1, 0, none⟩) L.length L.length, .slice (some ⟨q2, 0, none⟩) L.length L.length] 32 (0, 0))) (h : Fa w W q1 q2 L.length P R)
    (hp : Upto (fstO L cs) L.length L.length P) (hr : Upto (sndO L cs) L.length L.length R) : PtAt W pb 0 2 L.length (twoP L cs) := by
  intro i hi
  obtain rfl | rfl : i = 0 ∨ i = 1 := by omega
  · refine ⟨q1, 0, L.length, cell_blk hb 0, fun j hj => ?_⟩
    rw [Nat.zero_add, cell_blk h.hp, hp j hj, if_pos hj]
    rfl
  · refine ⟨q2, 0, L.length, cell_blk hb 1, fun j hj => ?_⟩
    rw [Nat.zero_add, cell_blk h.hr, hr j hj, if_pos hj]
    rfl
end Go.Proofs.YtnbhneeohkfocaaDoor.Sc
