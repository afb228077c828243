/- Ranks merged, plainly; exchanges and turns of rows of pledges (slices.swapRangeCmpFunc, rotateCmpFunc): by the program. -/
import Derived.Test.YtnlfhncbnfmccaaLn26
import Derived.Test.YtnlfhncbnfmccaaRankB26
import Derived.Test.YtnlfhncbnfmccaaOwnC
import Derived.Deep.MidRow
namespace Go.Proofs.Ytnlfhncbnfmccaa.Sc
open Go Go.RowKit
set_option maxRecDepth 100000

/- The rank is a stable sort. -/
theorem less_trans {x a b : Pg} (h1 : less x a = false) (h2 : less a b = false) : less x b = false := by
  obtain ⟨_, _, _, xd, _, xh⟩ := x
  obtain ⟨_, _, _, ad, _, ah⟩ := a
  obtain ⟨_, _, _, bd, _, bh⟩ := b
  unfold less at *
  cases xh <;> cases ah <;> cases bh <;> simp_all <;> omega
theorem less_asymm {x a : Pg} (h : less x a = true) : less a x = false := by
  obtain ⟨_, _, _, xd, _, xh⟩ := x
  obtain ⟨_, _, _, ad, _, ah⟩ := a
  unfold less at *
  cases xh <;> cases ah <;> simp_all <;> omega
def Desc (D : List Pg) : Prop := D.Pairwise fun a b => less a b = false
theorem insR_front {D : List Pg} {x : Pg} (h : ∀ b ∈ D, less x b = false) : insR D x = x :: D := by
  cases D with
  | nil => rfl
  | cons a r => rw [insR, h a List.mem_cons_self]; rfl
theorem insR_desc {D : List Pg} (h : Desc D) (x : Pg) : Desc (insR D x) := by
  induction D with
  | nil => exact List.pairwise_singleton _ _
  | cons a r ih =>
    obtain ⟨h1, h2⟩ := List.pairwise_cons.1 h
    rw [insR]
    split
    · rename_i hx
      refine List.pairwise_cons.2 ⟨fun b hb => ?_, ih h2⟩
      rcases List.mem_cons.1 ((insR_perm r x).mem_iff.1 hb) with rfl | hb
      · exact less_asymm hx
      · exact h1 b hb
    · rename_i hx
      have hx' : less x a = false := by simpa using hx
      refine List.pairwise_cons.2 ⟨fun b hb => ?_, h⟩
      rcases List.mem_cons.1 hb with rfl | hb
      · exact hx'
      · exact less_trans hx' (h1 b hb)
theorem insR_filter (p : Pg → Bool) {D : List Pg} (h : Desc D) (x : Pg) : (insR D x).filter p = if p x = true then insR (D.filter p) x else D.filter p := by
  induction D with
  | nil => by_cases hp : p x = true <;> simp [insR, hp]
  | cons a r ih =>
    obtain ⟨h1, h2⟩ := List.pairwise_cons.1 h
    rw [insR]
    split
    · rename_i hx
      by_cases ha : p a = true
      · rw [List.filter_cons_of_pos ha, List.filter_cons_of_pos ha, ih h2]
        by_cases hp : p x = true
        · rw [if_pos hp, if_pos hp, insR, if_pos hx]
        · rw [if_neg hp, if_neg hp]
      · rw [List.filter_cons_of_neg ha, List.filter_cons_of_neg ha, ih h2]
    · rename_i hx
      have hx' : less x a = false := by simpa using hx
      by_cases hp : p x = true
      · rw [if_pos hp, List.filter_cons_of_pos hp, insR_front]
        intro b hb
        rcases List.mem_cons.1 (List.mem_filter.1 hb).1 with rfl | hb
        · exact hx'
        · exact less_trans hx' (h1 b hb)
      · rw [if_neg hp, List.filter_cons_of_neg hp]
theorem rIns_filter (p : Pg → Bool) {D : List Pg} (h : Desc D.reverse) (x : Pg) : (rIns D x).filter p = if p x = true then rIns (D.filter p) x else D.filter p := by
  rw [rIns, List.filter_reverse, insR_filter p h x]
  by_cases hp : p x = true
  · rw [if_pos hp, if_pos hp, rIns, List.filter_reverse]
  · rw [if_neg hp, if_neg hp, List.filter_reverse, List.reverse_reverse]
theorem rIns_desc {D : List Pg} (h : Desc D.reverse) (x : Pg) : Desc (rIns D x).reverse := by
  rw [rIns, List.reverse_reverse]
  exact insR_desc h x
theorem fold_desc (r : List Pg) : ∀ D, Desc D.reverse → Desc (r.foldl rIns D).reverse := by
  induction r with
  | nil => exact fun _ h => h
  | cons x r ih => exact fun D h => ih _ (rIns_desc h x)
theorem fold_filter (p : Pg → Bool) (r : List Pg) : ∀ D, Desc D.reverse → (r.filter p).foldl rIns (D.filter p) = (r.foldl rIns D).filter p := by
  induction r with
  | nil => exact fun _ _ => rfl
  | cons x r ih =>
    intro D h
    rw [List.foldl_cons, ← ih _ (rIns_desc h x), rIns_filter p h x]
    by_cases hp : p x = true
    · rw [List.filter_cons_of_pos hp, if_pos hp, List.foldl_cons]
    · rw [List.filter_cons_of_neg hp, if_neg hp]
theorem rankOf_filter (p : Pg → Bool) (r : List Pg) : rankOf (r.filter p) = (rankOf r).filter p := fold_filter p r [] List.Pairwise.nil
theorem rank_desc (r : List Pg) : Desc (rankOf r).reverse := fold_desc r [] List.Pairwise.nil
theorem insR_map {f : Pg → Pg} (hf : ∀ x, (f x).held = x.held ∧ (f x).day = x.day) (D : List Pg) (x : Pg) : insR (D.map f) (f x) = (insR D x).map f := by
  have hl : ∀ x a, less (f x) (f a) = less x a := fun x a => by unfold less; rw [(hf x).1, (hf x).2, (hf a).1, (hf a).2]
  induction D with
  | nil => rfl
  | cons a r ih =>
    rw [List.map_cons, insR, insR, hl]
    split
    · rw [ih, List.map_cons]
    · rfl
theorem fold_map {f : Pg → Pg} (hf : ∀ x, (f x).held = x.held ∧ (f x).day = x.day) (r : List Pg) : ∀ D, (r.map f).foldl rIns (D.map f) = (r.foldl rIns D).map f := by
  induction r with
  | nil => exact fun _ => rfl
  | cons x r ih =>
    intro D
    rw [List.map_cons, List.foldl_cons, List.foldl_cons, ← ih, rIns, rIns, ← List.map_reverse, insR_map hf, List.map_reverse]
theorem rankOf_map {f : Pg → Pg} (hf : ∀ x, (f x).held = x.held ∧ (f x).day = x.day) (r : List Pg) : rankOf (r.map f) = (rankOf r).map f := fold_map hf r []

/-- One more, from the front. -/
def fIns : List Pg → Pg → List Pg
  | [], x => [x]
  | a :: r, x => if less x a then x :: a :: r else a :: fIns r x
theorem insR_end {l : List Pg} {a x : Pg} (h : less x a = false) : insR (l ++ [a]) x = insR l x ++ [a] := by
  induction l with
  | nil => rw [List.nil_append, insR, insR, h]; rfl
  | cons b r ih =>
    rw [List.cons_append, insR, insR, ih]
    split <;> rfl
theorem insR_all {l : List Pg} {x : Pg} (h : ∀ b ∈ l, less x b = true) : insR l x = l ++ [x] := by
  induction l with
  | nil => rfl
  | cons b r ih => rw [insR, if_pos (h b (List.mem_cons_self ..)), ih fun c hc => h c (List.mem_cons_of_mem _ hc)]; rfl
/-- Rising: none is less than one ahead of it. -/
abbrev Asc (D : List Pg) : Prop := D.Pairwise fun a b => less b a = false
theorem desc_asc {D : List Pg} (h : Desc D.reverse) : Asc D := by
  have := List.pairwise_reverse.1 h
  exact this
theorem asc_desc {D : List Pg} (h : Asc D) : Desc D.reverse := List.pairwise_reverse.2 h
theorem less_lt {x a b : Pg} (h1 : less x a = true) (h2 : less b a = false) : less x b = true := by
  cases h : less x b with
  | true => rfl
  | false =>
    have := less_trans h h2
    rw [h1] at this
    cases this
theorem less_tr {x a b : Pg} (h1 : less x a = true) (h2 : less a b = true) : less x b = true := by
  refine less_lt h1 ?_
  cases h : less b a with
  | false => rfl
  | true =>
    exfalso
    revert h h2
    unfold less
    cases a.held <;> cases b.held <;> simp <;> omega
theorem rIns_front : ∀ {D : List Pg} (_ : Asc D) (x : Pg), rIns D x = fIns D x
  | [], _, x => rfl
  | a :: r, h, x => by
    obtain ⟨h1, h2⟩ := List.pairwise_cons.1 h
    rw [rIns, List.reverse_cons, fIns]
    cases hx : less x a with
    | true =>
      rw [if_pos rfl, insR_all]
      · simp
      · intro b hb
        rcases List.mem_append.1 hb with hb | hb
        · exact less_lt hx (h1 b (List.mem_reverse.1 hb))
        · obtain rfl := List.mem_singleton.1 hb; exact hx
    | false =>
      rw [if_neg (by decide), insR_end hx, List.reverse_append, ← rIns_front h2 x]
      rfl
/-- Two ranks merged: of like ones those of the first stand ahead. -/
def mg (X Y : List Pg) : List Pg := X.merge Y fun a b => !less b a
theorem mg_nil (Y : List Pg) : mg [] Y = Y := by simp [mg]
theorem mg_nil2 (X : List Pg) : mg X [] = X := by simp [mg]
theorem mg_cons (a b : Pg) (X Y : List Pg) : mg (a :: X) (b :: Y) = if less b a = true then b :: mg (a :: X) Y else a :: mg X (b :: Y) := by
  unfold mg
  rw [List.cons_merge_cons]
  cases less b a <;> rfl
theorem mg_one : ∀ (X : List Pg) (y : Pg), mg X [y] = fIns X y
  | [], y => mg_nil _
  | a :: X, y => by
    rw [mg_cons, fIns, mg_nil2, mg_one X y]
theorem mg_ins : ∀ (X Y : List Pg) (y : Pg), mg X (fIns Y y) = fIns (mg X Y) y
  | [], Y, y => by rw [mg_nil, mg_nil]
  | a :: X, [], y => by
    rw [mg_nil2]
    exact mg_one _ _
  | a :: X, b :: Y, y => by
    have i1 := mg_ins X (b :: Y) y
    have i2 := mg_ins (a :: X) Y y
    rw [fIns] at i1 ⊢
    cases hb : less y b with
    | true =>
      rw [hb, if_pos rfl] at i1
      rw [if_pos rfl, mg_cons a y X (b :: Y), mg_cons a b]
      cases ha : less y a with
      | true =>
        rw [if_pos rfl]
        cases hab : less b a with
        | true => rw [if_pos rfl, fIns, hb, if_pos rfl]
        | false => rw [if_neg (by decide), fIns, ha, if_pos rfl]
      | false =>
        rw [if_neg (by decide)]
        cases hab : less b a with
        | true =>
          exfalso
          have := less_tr hb hab
          rw [ha] at this
          cases this
        | false => rw [if_neg (by decide), fIns, ha, if_neg (by decide), i1]
    | false =>
      rw [hb, if_neg (by decide)] at i1
      rw [if_neg (by decide), mg_cons, mg_cons]
      cases hab : less b a with
      | true => rw [if_pos rfl, if_pos rfl, i2, fIns, hb, if_neg (by decide)]
      | false =>
        rw [if_neg (by decide), if_neg (by decide), fIns, less_trans hb hab, if_neg (by decide), i1]
theorem mg_rank {X : List Pg} (hX : Asc X) (B : List Pg) : mg X (rankOf B) = B.foldl rIns X := by
  rw [← List.reverse_reverse B]
  induction B.reverse with
  | nil => exact mg_nil2 X
  | cons y r ih =>
    rw [List.reverse_cons, rankOf_snoc, List.foldl_append, ← ih, rIns_front (desc_asc (rank_desc _)), mg_ins]
    show _ = rIns (mg X (rankOf r.reverse)) y
    rw [rIns_front]
    rw [ih]
    exact desc_asc (fold_desc _ _ (asc_desc hX))
theorem mg_ranks (A B : List Pg) : mg (rankOf A) (rankOf B) = rankOf (A ++ B) := by
  rw [mg_rank (desc_asc (rank_desc A)), rankOf, rankOf, List.foldl_append]
/-- Merged by halves. -/
theorem mg_split : ∀ {L1 R1 L2 R2 : List Pg} (_ : ∀ x ∈ L1, ∀ y ∈ R2, less y x = false) (_ : ∀ x ∈ L2, ∀ y ∈ R1, less y x = true), mg (L1 ++ L2) (R1 ++ R2) = mg L1 R1 ++ mg L2 R2
  | [], [], L2, R2, _, _ => by simp [mg_nil]
  | [], y :: R1, [], R2, _, _ => by simp [mg_nil]
  | [], y :: R1, x :: L2, R2, h1, h2 => by
    have ih := mg_split (L1 := []) (R1 := R1) (L2 := x :: L2) (R2 := R2) (fun _ h => by cases h) (fun a ha b hb => h2 a ha b (List.mem_cons_of_mem _ hb))
    rw [mg_nil] at ih ⊢
    rw [List.nil_append, List.cons_append, mg_cons, h2 x (List.mem_cons_self ..) y (List.mem_cons_self ..), if_pos rfl, List.cons_append]
    rw [List.nil_append] at ih
    rw [ih]
  | x :: L1, [], L2, [], _, _ => by simp [mg_nil2]
  | x :: L1, [], L2, y :: R2, h1, h2 => by
    have ih := mg_split (L1 := L1) (R1 := []) (L2 := L2) (R2 := y :: R2) (fun a ha => h1 a (List.mem_cons_of_mem _ ha)) (fun _ _ _ h => by cases h)
    rw [mg_nil2] at ih ⊢
    rw [List.nil_append] at ih ⊢
    rw [List.cons_append, mg_cons, h1 x (List.mem_cons_self ..) y (List.mem_cons_self ..), if_neg (by decide), ih]
    rfl
  | x :: L1, y :: R1, L2, R2, h1, h2 => by
    have i1 := mg_split (L1 := L1) (R1 := y :: R1) (L2 := L2) (R2 := R2) (fun a ha => h1 a (List.mem_cons_of_mem _ ha)) h2
    have i2 := mg_split (L1 := x :: L1) (R1 := R1) (L2 := L2) (R2 := R2) h1 (fun a ha b hb => h2 a ha b (List.mem_cons_of_mem _ hb))
    rw [List.cons_append, List.cons_append, mg_cons, mg_cons]
    rw [List.cons_append] at i1 i2
    split
    · rw [i2, List.cons_append]
    · rw [i1, List.cons_append]
theorem mg_length (X Y : List Pg) : (mg X Y).length = X.length + Y.length := by simp [mg, List.length_merge]
/-- One alone, merged. -/
theorem mg_left {x : Pg} {R : List Pg} {k : Nat} (hk : k ≤ R.length) (h1 : ∀ j (h : j < R.length), j < k → less R[j] x = true) (h2 : ∀ j (h : j < R.length), k ≤ j → less R[j] x = false) : mg [x] R = R.take k ++ [x] ++ R.drop k := by
  have h := mg_split (L1 := []) (L2 := [x]) (R1 := R.take k) (R2 := []) (fun _ h => by cases h) (fun a ha b hb => by
    obtain rfl := List.mem_singleton.1 ha
    obtain ⟨j, hj, rfl⟩ := List.getElem_of_mem hb
    rw [List.length_take] at hj
    rw [List.getElem_take]
    exact h1 j (by omega) (by omega))
  have h' := mg_split (L1 := [x]) (L2 := []) (R1 := R.take k) (R2 := R.drop k) (fun a ha b hb => by
    obtain rfl := List.mem_singleton.1 ha
    obtain ⟨j, hj, rfl⟩ := List.getElem_of_mem hb
    rw [List.length_drop] at hj
    rw [List.getElem_drop]
    exact h2 (k + j) (by omega) (by omega)) (fun _ h => by cases h)
  rw [List.append_nil, List.take_append_drop, mg_nil] at h'
  rw [List.nil_append, List.append_nil, mg_nil, mg_nil2] at h
  rw [h', h]
theorem mg_right {y : Pg} {L : List Pg} {k : Nat} (hk : k ≤ L.length) (h1 : ∀ j (h : j < L.length), j < k → less y L[j] = false) (h2 : ∀ j (h : j < L.length), k ≤ j → less y L[j] = true) : mg L [y] = L.take k ++ [y] ++ L.drop k := by
  have h := mg_split (L1 := L.take k) (L2 := L.drop k) (R1 := [y]) (R2 := []) (fun _ _ _ h => by cases h) (fun a ha b hb => by
    obtain rfl := List.mem_singleton.1 hb
    obtain ⟨j, hj, rfl⟩ := List.getElem_of_mem ha
    rw [List.length_drop] at hj
    rw [List.getElem_drop]
    exact h2 (k + j) (by omega) (by omega))
  have h' := mg_split (L1 := L.take k) (L2 := []) (R1 := []) (R2 := [y]) (fun a ha b hb => by
    obtain rfl := List.mem_singleton.1 hb
    obtain ⟨j, hj, rfl⟩ := List.getElem_of_mem ha
    rw [List.length_take] at hj
    rw [List.getElem_take]
    exact h1 j (by omega) (by omega)) (fun _ h => by cases h)
  rw [List.take_append_drop, List.append_nil, mg_nil2] at h
  rw [List.append_nil, List.nil_append, mg_nil2, mg_nil] at h'
  rw [h, h']
end Go.Proofs.Ytnlfhncbnfmccaa.Sc
namespace Go.Proofs.Ytnlfhncbnfmccaa.Sc
open Go Go.RowKit Go.ChangeShapes Go.WideShapes Go.ChangeAt Go.Sort Go.Shelf
set_option maxRecDepth 100000

def swL (D : List Pg) (i j : Nat) : List Pg := (swp D.toArray i j).toList
def swN (D : List Pg) (a b : Nat) : Nat → List Pg
  | 0 => D
  | n + 1 => swL (swN D a b n) (a + n) (b + n)
theorem swL_length (D : List Pg) (i j : Nat) : (swL D i j).length = D.length := by simp [swL, swp]
theorem swN_length (D : List Pg) (a b : Nat) : ∀ n, (swN D a b n).length = D.length
  | 0 => rfl
  | n + 1 => by rw [swN, swL_length, swN_length D a b n]
theorem swL_at {P M Q : List Pg} {x y : Pg} {i j : Nat} (hi : P.length = i) (hj : P.length + 1 + M.length = j) : swL (P ++ x :: (M ++ y :: Q)) i j = P ++ y :: (M ++ x :: Q) := by
  subst hi hj
  unfold swL swp
  have e1 : (P ++ x :: (M ++ y :: Q)).toArray[P.length]! = x := by
    rw [getElem!_pos _ _ (by simp)]
    simp
  have e2 : (P ++ x :: (M ++ y :: Q)).toArray[P.length + 1 + M.length]! = y := by
    rw [getElem!_pos _ _ (by simp; omega)]
    rw [List.getElem_toArray, List.getElem_append_right (by omega)]
    have : P.length + 1 + M.length - P.length = M.length + 1 := by omega
    simp only [this, List.getElem_cons_succ]
    rw [List.getElem_append_right (Nat.le_refl _)]
    simp
  rw [e1, e2]
  simp only [List.setIfInBounds_toArray]
  rw [List.set_append_right _ _ (Nat.le_refl _), Nat.sub_self, List.set_cons_zero, List.set_append_right _ _ (by omega)]
  have : P.length + 1 + M.length - P.length = M.length + 1 := by omega
  rw [this, List.set_cons_succ, List.set_append_right _ _ (Nat.le_refl _), Nat.sub_self, List.set_cons_zero]
/-- Two rows of one length exchanged. -/
theorem swN_is : ∀ (n : Nat) (P A M B Q : List Pg) (a b : Nat), P.length = a → A.length = n → P.length + A.length + M.length = b → B.length = n → swN (P ++ A ++ M ++ B ++ Q) a b n = P ++ B ++ M ++ A ++ Q
  | 0, P, A, M, B, Q, a, b, hp, ha, hb, hB => by
    obtain rfl := List.length_eq_zero_iff.1 ha
    obtain rfl := List.length_eq_zero_iff.1 hB
    rfl
  | n + 1, P, A, M, B, Q, a, b, hp, ha, hb, hB => by
    obtain ⟨A', x, rfl⟩ : ∃ A' x, A = A' ++ [x] := ⟨A.dropLast, A.getLast (by intro e; rw [e] at ha; cases ha), (List.dropLast_concat_getLast _).symm⟩
    obtain ⟨B', y, rfl⟩ : ∃ A' x, B = A' ++ [x] := ⟨B.dropLast, B.getLast (by intro e; rw [e] at hB; cases hB), (List.dropLast_concat_getLast _).symm⟩
    have hA' : A'.length = n := by simpa using ha
    have hB' : B'.length = n := by simpa using hB
    have ih := swN_is n P A' (x :: M) B' (y :: Q) a b hp hA' (by simp at hb ⊢; omega) hB'
    have e1 : P ++ (A' ++ [x]) ++ M ++ (B' ++ [y]) ++ Q = P ++ A' ++ (x :: M) ++ B' ++ (y :: Q) := by simp
    rw [swN, e1, ih]
    have e2 : P ++ B' ++ (x :: M) ++ A' ++ (y :: Q) = (P ++ B') ++ x :: ((M ++ A') ++ y :: Q) := by simp
    rw [e2, swL_at (by simp; omega) (by simp at hb ⊢; omega)]
    simp
theorem sw_own {W : World} {B g cap n : Nat} {E : List Pg} (h : W.ownsRow B 37 6 (.slice (some ⟨g, 0, none⟩) n cap) n (pgCells E)) {i j : Nat} (hi : i < E.length) (hj : j < E.length) :
    ((W.drew.setCells g (0 + i * 6) (Pg.row E.toArray[j]!)).setCells g (0 + j * 6) (Pg.row E.toArray[i]!)).ownsRow B 37 6 (.slice (some ⟨g, 0, none⟩) n cap) n (pgCells (swL E i j)) ∧
    W.grownBy ((W.drew.setCells g (0 + i * 6) (Pg.row E.toArray[j]!)).setCells g (0 + j * 6) (Pg.row E.toArray[i]!)) (some g) := by
  obtain ⟨hH, hlt⟩ := own_holdsP (d := E.toArray) h
  have HST : W = sortWorldK Pg.row 6 W g 0 0 E.toArray #[] := by unfold sortWorldK; rw [grow_empty]; exact (putRowK_self Pg.row 6 W g 0 E.toArray hH).symm
  have e := sortWorldK_swp_c Pg.row 6 W g 0 (fun _ => rfl) 0 E.toArray #[] hlt i j (by simpa using hi) (by simpa using hj)
  rw [← HST] at e
  rw [e]
  have ho := own_put (m := 0 + 1) (os := #[]) (F := flatK Pg.row 6 (swp E.toArray i j)) h (by rw [size_flatK, pgCells_flat, flat_len (sz := 6) _ (pg_rows E)]; simp [swp])
  rw [flat_pgs] at ho
  exact ⟨ho.1, ho.2⟩
end Go.Proofs.Ytnlfhncbnfmccaa.Sc
namespace Go.Proofs.Ytnlfhncbnfmccaa.Sc
open Go Go.RowKit
set_option maxRecDepth 100000
theorem cells_grown (g : Nat) : ∀ (vs : List Value) (o : Nat) (w : World), w.grownBy (w.setCells g o vs) (some g)
  | [], _, _ => ⟨rfl, rfl, rfl, Nat.le_refl _, fun _ _ _ => rfl⟩
  | v :: r, o, w => grown_then (Ord.set_grown w g o v) (cells_grown g r (o + 1) (w.setCell ⟨g, o, none⟩ v))
end Go.Proofs.Ytnlfhncbnfmccaa.Sc
namespace Go.Proofs.Ytnlfhncbnfmccaa.Ord
open Go Go.RowKit
set_option maxRecDepth 100000
/-- A row that lay there, cells of it written. -/
def cutrow (B : Nat) (e : TypeId) (sz n : Nat) (xs : List Value) (v : Value) : Spec := ⟨fun _ _ O w => w.ownsRow B e sz v n xs ∧ ∀ k, O k ↔ v.ownBlock = some k, [], fun k => v.ownBlock = some k⟩
/-- .. once more, behind operation j. -/
def cutrow2 (B : Nat) (e : TypeId) (sz n : Nat) (xs : List Value) (v : Value) (j : Nat) : Spec := ⟨fun _ _ O w => w.ownsRow B e sz v n xs ∧ ∀ k, O k ↔ v.ownBlock = some k, [j], fun _ => False⟩
theorem lasts_cutrow {F : Nat → Prop} {w0 : World} (B : Nat) (e : TypeId) (sz n : Nat) (xs : List Value) (v : Value) : Lasts F (cutrow B e sz n xs v) w0 :=
  ⟨fun _ _ _ _ h k hk => (h.1.lt k ((h.2 k).1 hk)).2, fun _ _ _ _ _ h _ _ _ hs => ⟨Any.ownsRow_same h.1 (fun k hk => hs k ((h.2 k).2 hk)), h.2⟩⟩
theorem lasts_cutrow2 {F : Nat → Prop} {w0 : World} (B : Nat) (e : TypeId) (sz n : Nat) (xs : List Value) (v : Value) (j : Nat) : Lasts F (cutrow2 B e sz n xs v j) w0 :=
  ⟨fun _ _ _ _ h k hk => (h.1.lt k ((h.2 k).1 hk)).2, fun _ _ _ _ _ h _ _ _ hs => ⟨Any.ownsRow_same h.1 (fun k hk => hs k ((h.2 k).2 hk)), h.2⟩⟩
section
variable {P : Program} {S : Nat → Spec} {Os : Nat → Nat → Prop} {dst : Option Tmp} {t : TypeId} {pos : String} {after : Array Edge} {gd : Option (Nat × Bool)} {ρ : Operand → Value} {w w0 : World} {i : Nat}
theorem ok_storeMid {T : TypeId} {x y : Operand} {g o : Nat} {cells : Array Value} (hx : ρ x = .pointer (some ⟨g, o, none⟩)) (hy : ρ y = .agg cells) (ht : w.there g o cells.size) (hi : (P.info? T).map (·.size) = some cells.size) (h1 : cells.all (·.oneCell') = true)
    (h : Post S Os i ρ w undef (w.setCells g o cells.toList)) : Any.OpOk P ⟨dst, .store T x y, t, pos, after, gd⟩ ρ w (Post S Os i ρ w) := by
  have hrun := run_storeVar_mid (P := P) w g o T cells ht hi h1
  unfold Any.OpOk
  simp only [execOp, hx, hy, Instr.storeAt, Instr.sureAddr, Sem.run_bind, Sem.run_pure, Result.andThen_ok]
  simp [hrun, Result.andThen]
  exact h
theorem ok_cutrow {T e : TypeId} {B sz n g cap o : Nat} {xs ys : List Value} {x y : Operand} {cells : Array Value} (hx : ρ x = .pointer (some ⟨g, o, none⟩)) (hy : ρ y = .agg cells) (hown : w0.ownsRow B e sz (.slice (some ⟨g, 0, none⟩) n cap) n xs)
    (hkeep : ∀ k, (Value.slice (some ⟨g, 0, none⟩) n cap).ownBlock = some k → w.heap[k]? = w0.heap[k]?) (hset : ∀ W : World, W.ownsRow B e sz (.slice (some ⟨g, 0, none⟩) n cap) n xs → W.there g o cells.size ∧ (W.setCells g o cells.toList).ownsRow B e sz (.slice (some ⟨g, 0, none⟩) n cap) n ys)
    (hi : (P.info? T).map (·.size) = some cells.size) (h1 : cells.all (·.oneCell') = true) (hS : S i = cutrow B e sz n ys (.slice (some ⟨g, 0, none⟩) n cap)) : Any.OpOk P ⟨dst, .store T x y, t, pos, after, gd⟩ ρ w (Post S Os i ρ w) := by
  obtain ⟨h2, h3⟩ := hset w (Any.ownsRow_same hown hkeep)
  have hg := Sc.cells_grown g cells.toList o w
  refine ok_storeMid hx hy h2 hi h1 ⟨fun k => (Value.slice (some ⟨g, 0, none⟩) n cap).ownBlock = some k, ?_, ⟨hg.os, hg.tape, hg.output⟩, hg.size, fun k hlt _ hn => hg.block k hlt (fun e => hn (by rw [hS]; exact (by first | exact e | exact e.symm))), fun k hk => .inr (.inr (by rw [hS]; exact hk))⟩
  rw [hS]
  exact ⟨h3, fun k => Iff.rfl⟩
theorem ok_cutrow2 {T e : TypeId} {B sz n g cap o j : Nat} {xs ys : List Value} {x y : Operand} {cells : Array Value} (hx : ρ x = .pointer (some ⟨g, o, none⟩)) (hy : ρ y = .agg cells) (hk : ∃ ρ' v', (cutrow B e sz n xs (.slice (some ⟨g, 0, none⟩) n cap)).know ρ' v' (Os j) w)
    (hset : ∀ W : World, W.ownsRow B e sz (.slice (some ⟨g, 0, none⟩) n cap) n xs → W.there g o cells.size ∧ (W.setCells g o cells.toList).ownsRow B e sz (.slice (some ⟨g, 0, none⟩) n cap) n ys)
    (hi : (P.info? T).map (·.size) = some cells.size) (h1 : cells.all (·.oneCell') = true) (hS : S i = cutrow2 B e sz n ys (.slice (some ⟨g, 0, none⟩) n cap) j) : Any.OpOk P ⟨dst, .store T x y, t, pos, after, gd⟩ ρ w (Post S Os i ρ w) := by
  obtain ⟨_, _, hr, hO⟩ := hk
  obtain ⟨h2, h3⟩ := hset w hr
  have hg := Sc.cells_grown g cells.toList o w
  have hj : j ∈ (S i).takes := by rw [hS]; exact List.mem_singleton.2 rfl
  refine ok_storeMid hx hy h2 hi h1 ⟨fun k => (Value.slice (some ⟨g, 0, none⟩) n cap).ownBlock = some k, ?_, ⟨hg.os, hg.tape, hg.output⟩, hg.size, fun k hlt hn _ => hg.block k hlt (fun e => hn j hj ((hO k).2 (by first | exact e | exact e.symm))), fun k hk => .inl ⟨j, hj, (hO k).2 hk⟩⟩
  rw [hS]
  exact ⟨h3, fun k => Iff.rfl⟩
end
end Go.Proofs.Ytnlfhncbnfmccaa.Ord
namespace Go.Proofs.Ytnlfhncbnfmccaa.Sc
open Go Go.RowKit Go.ChangeShapes Go.WideShapes Go.ChangeAt Go.Sort Go.Shelf
set_option maxRecDepth 100000

theorem pgCells_ln (m : List Pg) : (pgCells m).length = m.length * 6 := by rw [pgCells_flat, flat_len (sz := 6) _ (pg_rows m)]; simp
theorem pgCells_put : ∀ {m : List Pg} {k : Nat} (_ : k < m.length) (y : Pg), ((((((pgCells m).set (k * 6) (.string y.thing)).set (k * 6 + 1) (.string y.debtor)).set (k * 6 + 1 + 1) (.string y.cred)).set (k * 6 + 1 + 1 + 1) (.int .i64 y.day)).set (k * 6 + 1 + 1 + 1 + 1) (.int .i64 y.amt)).set (k * 6 + 1 + 1 + 1 + 1 + 1) (.bool y.held) = pgCells (m.set k y)
  | x :: r, 0, _, y => rfl
  | x :: r, k + 1, h, y => by
    have ih := pgCells_put (m := r) (k := k) (by simpa using h) y
    rw [show (k + 1) * 6 = (k * 6) + 1 + 1 + 1 + 1 + 1 + 1 by omega]
    show ((((((Value.string x.thing :: Value.string x.debtor :: Value.string x.cred :: Value.int .i64 x.day :: Value.int .i64 x.amt :: Value.bool x.held :: pgCells r).set _ _).set _ _).set _ _).set _ _).set _ _).set _ _ = _
    simp only [List.set_cons_succ]
    rw [ih]
    rfl
/-- One pledge of an own row written. -/
theorem own_pg_set {w : World} {B g cap n : Nat} {E : List Pg} (h : w.ownsRow B 37 6 (.slice (some ⟨g, 0, none⟩) n cap) n (pgCells E)) {q : Nat} (hq : q < E.length) (y : Pg) :
    w.there g (q * 6) 6 ∧ (w.setCells g (q * 6) (Pg.row y)).ownsRow B 37 6 (.slice (some ⟨g, 0, none⟩) n cap) n (pgCells (E.set q y)) := by
  have hl := pgCells_ln E
  refine ⟨fun j hj => ?_, ?_⟩
  · obtain ⟨h1, h2⟩ := own_read h (j := q * 6 + j) (by omega)
    exact ⟨by rw [h1]; rfl, h2⟩
  · have := own_cell (own_cell (own_cell (own_cell (own_cell (own_cell h (q * 6) (.string y.thing)) (q * 6 + 1) (.string y.debtor)) (q * 6 + 1 + 1) (.string y.cred)) (q * 6 + 1 + 1 + 1) (.int .i64 y.day)) (q * 6 + 1 + 1 + 1 + 1) (.int .i64 y.amt)) (q * 6 + 1 + 1 + 1 + 1 + 1) (.bool y.held)
    rw [pgCells_put hq] at this
    exact this
theorem swL_set {E : List Pg} {i j : Nat} (hi : i < E.length) (hj : j < E.length) : (E.set i E[j]).set j E[i] = swL E i j := by
  unfold swL swp
  rw [getElem!_pos _ i (by simpa using hi), getElem!_pos _ j (by simpa using hj)]
  simp
/-- What stands in an own row, in any world where its block stands. -/
theorem own_pgAt {w : World} {B g cap n : Nat} {E : List Pg} (h : w.ownsRow B 37 6 (.slice (some ⟨g, 0, none⟩) n cap) n (pgCells E)) {q : Nat} (hq : q < E.length) (W : World) (hW : W.heap[g]? = w.heap[g]?) : PgAt W g (q * 6) E[q] := by
  have hW' : W.ownsRow B 37 6 (.slice (some ⟨g, 0, none⟩) n cap) n (pgCells E) := Any.ownsRow_same h (fun k hk => by obtain rfl : g = k := Option.some.inj hk; exact hW)
  have hn : n = E.length := by have := h.1; rw [pgCells_ln] at this; omega
  obtain ⟨b, o, he, -, hp⟩ := pg_at (own_pgs hW' hn) hq
  simp only [Option.some.injEq, Addr.mk.injEq, and_true] at he
  obtain ⟨rfl, rfl⟩ := he
  rwa [Nat.zero_add] at hp
/-- The two stores of an exchange. -/
theorem sw_sets {B g cap n : Nat} {E : List Pg} {i j : Nat} (hi : i < E.length) (hj : j < E.length) :
    (∀ W : World, W.ownsRow B 37 6 (.slice (some ⟨g, 0, none⟩) n cap) n (pgCells E) → W.there g (i * 6) (Pg.cells E[j]).size ∧ (W.setCells g (i * 6) (Pg.cells E[j]).toList).ownsRow B 37 6 (.slice (some ⟨g, 0, none⟩) n cap) n (pgCells (E.set i E[j]))) ∧
    (∀ W : World, W.ownsRow B 37 6 (.slice (some ⟨g, 0, none⟩) n cap) n (pgCells (E.set i E[j])) → W.there g (j * 6) (Pg.cells E[i]).size ∧ (W.setCells g (j * 6) (Pg.cells E[i]).toList).ownsRow B 37 6 (.slice (some ⟨g, 0, none⟩) n cap) n (pgCells (swL E i j))) :=
  ⟨fun _ hW => own_pg_set hW hi _, fun _ hW => by
    have := own_pg_set hW (q := j) (by simpa using hj) E[i]
    rw [swL_set hi hj] at this
    exact this⟩
set_option maxHeartbeats 4000000 in
theorem swapR_any (D : List Pg) (g cap B a b n : Nat) (fv : Value) (w : World) (h : w.ownsRow B 37 6 (.slice (some ⟨g, 0, none⟩) D.length cap) D.length (pgCells D)) (ha : a + n ≤ D.length) (hb : b + n ≤ D.length) (hl : D.length ≤ 1000000) :
    Calls Try.prog 77 #[.slice (some ⟨g, 0, none⟩) D.length cap, .int .i64 a, .int .i64 b, .int .i64 n, fv] w (SortP w B (.slice (some ⟨g, 0, none⟩) D.length cap) (swN D a b n)) := by
  have HH := Lib.hid h
  have HAB := Lib.hid (And.intro ha (And.intro hb hl))
  obtain ⟨L, hL⟩ : ∃ L, D.length = L := ⟨_, rfl⟩
  have HL := Lib.hid hL
  have hl6 : L ≤ 1000000 := by omega
  rw [hL]
  clear h ha hb hl hL
  go_enter Try.func77, Try.ntmps77
  go_wp2_with fail
  go_loopw [10] (fun i wr => ∃ k : Nat, k ≤ n ∧ i = .int .i64 k ∧ wr.ownsRow B 37 6 (.slice (some ⟨g, 0, none⟩) L cap) L (pgCells (swN D a b k)) ∧ w.grownBy wr (some g)) (fun i _ => n - (intOf i).toNat)
  case atStart => exact ⟨0, Nat.zero_le _, rfl, by rw [← HL.out]; exact HH.out, ⟨rfl, rfl, rfl, Nat.le_refl _, fun _ _ _ => rfl⟩⟩
  case round =>
    obtain ⟨k, hk, rfl, hown, hgr⟩ := hrel
    have HG := Lib.hid hgr
    have HO := Lib.hid hown
    by_cases hlt : k < n
    · have hki : ((k : Nat) : Int) < (n : Int) := by omega
      have hk6 : (k : Int) ≤ 1000000 := by have := HAB.out; omega
      have HKL := Lib.hid hlt
      have hEl : (swN D a b k).length = L := by rw [swN_length]; exact HL.out
      obtain ⟨i, hie⟩ : ∃ i, i = a + k := ⟨_, rfl⟩
      obtain ⟨j, hje⟩ : ∃ j, j = b + k := ⟨_, rfl⟩
      have hi : i < L := by have := HAB.out; have := HL.out; omega
      have hj : j < L := by have := HAB.out; have := HL.out; omega
      have EWI : Hid (IntKind.i64.wrap ((a : Int) + (k : Int)) = ((i : Nat) : Int)) := Lib.hid (by rw [IntKind.wrap_i64]; omega)
      have EWJ : Hid (IntKind.i64.wrap ((b : Int) + (k : Int)) = ((j : Nat) : Int)) := Lib.hid (by rw [IntKind.wrap_i64]; omega)
      have HN : Hid (swN D a b (k + 1) = swL (swN D a b k) i j) := Lib.hid (by rw [hie, hje]; rfl)
      generalize swN D a b k = E at *
      have HPX := Lib.hid (own_pgAt hown (q := i) (by omega))
      have HPY := Lib.hid (own_pgAt hown (q := j) (by omega))
      have HST := Lib.hid (sw_sets (B := B) (g := g) (cap := cap) (n := L) (E := E) (i := i) (j := j) (by omega) (by omega))
      generalize E[i]'(by omega) = x at *
      generalize E[j]'(by omega) = y at *
      generalize E.set i y = E1 at *
      generalize swL E i j = E2 at *
      obtain ⟨x0, x1, x2, x3, x4, x5⟩ := x
      obtain ⟨y0, y1, y2, y3, y4, y5⟩ := y
      simp only [Pg.cells, PgAt] at HPX HPY HST
      have hiz : (i : Int) < (L : Int) := by omega
      have hjz : (j : Int) < (L : Int) := by omega
      clear hown hgr hk hlt hEl hie hje
      go_wp2_with fail
      refine Ord.region_lit (fun
        | 0 => Ord.val (.slice (some ⟨g, 0, none⟩) L cap)
        | 1 => Ord.val (.int .i64 ((a : Nat) : Int))
        | 2 => Ord.val (.int .i64 ((k : Nat) : Int))
        | 3 => Ord.val (.int .i64 ((i : Nat) : Int))
        | 4 => Ord.val (.slice (some ⟨g, 0, none⟩) L cap)
        | 5 => Ord.val (.int .i64 ((b : Nat) : Int))
        | 6 => Ord.val (.int .i64 ((k : Nat) : Int))
        | 7 => Ord.val (.int .i64 ((j : Nat) : Int))
        | 8 => Ord.val (.slice (some ⟨g, 0, none⟩) L cap)
        | 9 => Ord.val (.int .i64 ((b : Nat) : Int))
        | 10 => Ord.val (.int .i64 ((k : Nat) : Int))
        | 11 => Ord.val (.int .i64 ((j : Nat) : Int))
        | 12 => Ord.val (.pointer (some ⟨g, j * 6, none⟩))
        | 13 => Ord.val (.agg #[.string y0, .string y1, .string y2, .int .i64 y3, .int .i64 y4, .bool y5])
        | 14 => Ord.val (.slice (some ⟨g, 0, none⟩) L cap)
        | 15 => Ord.val (.int .i64 ((a : Nat) : Int))
        | 16 => Ord.val (.int .i64 ((k : Nat) : Int))
        | 17 => Ord.val (.int .i64 ((i : Nat) : Int))
        | 18 => Ord.val (.pointer (some ⟨g, i * 6, none⟩))
        | 19 => Ord.val (.agg #[.string x0, .string x1, .string x2, .int .i64 x3, .int .i64 x4, .bool x5])
        | 20 => Ord.val (.pointer (some ⟨g, i * 6, none⟩))
        | 21 => Ord.cutrow B 37 6 L (pgCells E1) (.slice (some ⟨g, 0, none⟩) L cap)
        | 22 => Ord.val (.pointer (some ⟨g, j * 6, none⟩))
        | 23 => Ord.cutrow2 B 37 6 L (pgCells E2) (.slice (some ⟨g, 0, none⟩) L cap) 21
        | _ => Ord.idle) (fun b => (.slice (some ⟨g, 0, none⟩) L cap : Value).ownBlock = some b) (by kernel_rfl) (by kernel_rfl) (by kernel_rfl) ?_ ?_ ?_ ?_
      · intro i _
        match i with
        | 0 => exact Ord.lasts_val _
        | 1 => exact Ord.lasts_val _
        | 2 => exact Ord.lasts_val _
        | 3 => exact Ord.lasts_val _
        | 4 => exact Ord.lasts_val _
        | 5 => exact Ord.lasts_val _
        | 6 => exact Ord.lasts_val _
        | 7 => exact Ord.lasts_val _
        | 8 => exact Ord.lasts_val _
        | 9 => exact Ord.lasts_val _
        | 10 => exact Ord.lasts_val _
        | 11 => exact Ord.lasts_val _
        | 12 => exact Ord.lasts_val _
        | 13 => exact Ord.lasts_val _
        | 14 => exact Ord.lasts_val _
        | 15 => exact Ord.lasts_val _
        | 16 => exact Ord.lasts_val _
        | 17 => exact Ord.lasts_val _
        | 18 => exact Ord.lasts_val _
        | 19 => exact Ord.lasts_val _
        | 20 => exact Ord.lasts_val _
        | 21 => exact Ord.lasts_cutrow _ _ _ _ _ _
        | 22 => exact Ord.lasts_val _
        | 23 => exact Ord.lasts_cutrow2 _ _ _ _ _ _ _
        | n + 24 => exact Ord.lasts_idle
      · refine ⟨fun k b _ hh => ?_, fun k b _ hh => ?_, fun k k' b _ _ hne h1 h2 => ?_⟩
        · match k, hh with
          | 0, hh => exact hh.elim
          | 1, hh => exact hh.elim
          | 2, hh => exact hh.elim
          | 3, hh => exact hh.elim
          | 4, hh => exact hh.elim
          | 5, hh => exact hh.elim
          | 6, hh => exact hh.elim
          | 7, hh => exact hh.elim
          | 8, hh => exact hh.elim
          | 9, hh => exact hh.elim
          | 10, hh => exact hh.elim
          | 11, hh => exact hh.elim
          | 12, hh => exact hh.elim
          | 13, hh => exact hh.elim
          | 14, hh => exact hh.elim
          | 15, hh => exact hh.elim
          | 16, hh => exact hh.elim
          | 17, hh => exact hh.elim
          | 18, hh => exact hh.elim
          | 19, hh => exact hh.elim
          | 20, hh => exact hh.elim
          | 21, hh => exact hh
          | 22, hh => exact hh.elim
          | 23, hh => exact hh.elim
          | m + 24, hh => exact hh.elim
        · match k, hh with
          | 0, hh => exact hh.elim
          | 1, hh => exact hh.elim
          | 2, hh => exact hh.elim
          | 3, hh => exact hh.elim
          | 4, hh => exact hh.elim
          | 5, hh => exact hh.elim
          | 6, hh => exact hh.elim
          | 7, hh => exact hh.elim
          | 8, hh => exact hh.elim
          | 9, hh => exact hh.elim
          | 10, hh => exact hh.elim
          | 11, hh => exact hh.elim
          | 12, hh => exact hh.elim
          | 13, hh => exact hh.elim
          | 14, hh => exact hh.elim
          | 15, hh => exact hh.elim
          | 16, hh => exact hh.elim
          | 17, hh => exact hh.elim
          | 18, hh => exact hh.elim
          | 19, hh => exact hh.elim
          | 20, hh => exact hh.elim
          | 21, hh => exact (HO.out.lt _ hh).2
          | 22, hh => exact hh.elim
          | 23, hh => exact hh.elim
          | m + 24, hh => exact hh.elim
        · have a : (k = 21 ∧ (fun b => (.slice (some ⟨g, 0, none⟩) L cap : Value).ownBlock = some b) b) := by
            match k, h1 with
            | 0, hh => exact hh.elim
            | 1, hh => exact hh.elim
            | 2, hh => exact hh.elim
            | 3, hh => exact hh.elim
            | 4, hh => exact hh.elim
            | 5, hh => exact hh.elim
            | 6, hh => exact hh.elim
            | 7, hh => exact hh.elim
            | 8, hh => exact hh.elim
            | 9, hh => exact hh.elim
            | 10, hh => exact hh.elim
            | 11, hh => exact hh.elim
            | 12, hh => exact hh.elim
            | 13, hh => exact hh.elim
            | 14, hh => exact hh.elim
            | 15, hh => exact hh.elim
            | 16, hh => exact hh.elim
            | 17, hh => exact hh.elim
            | 18, hh => exact hh.elim
            | 19, hh => exact hh.elim
            | 20, hh => exact hh.elim
            | 21, hh => exact ⟨rfl, hh⟩
            | 22, hh => exact hh.elim
            | 23, hh => exact hh.elim
            | m + 24, hh => exact hh.elim
          have a' : (k' = 21 ∧ (fun b => (.slice (some ⟨g, 0, none⟩) L cap : Value).ownBlock = some b) b) := by
            match k', h2 with
            | 0, hh => exact hh.elim
            | 1, hh => exact hh.elim
            | 2, hh => exact hh.elim
            | 3, hh => exact hh.elim
            | 4, hh => exact hh.elim
            | 5, hh => exact hh.elim
            | 6, hh => exact hh.elim
            | 7, hh => exact hh.elim
            | 8, hh => exact hh.elim
            | 9, hh => exact hh.elim
            | 10, hh => exact hh.elim
            | 11, hh => exact hh.elim
            | 12, hh => exact hh.elim
            | 13, hh => exact hh.elim
            | 14, hh => exact hh.elim
            | 15, hh => exact hh.elim
            | 16, hh => exact hh.elim
            | 17, hh => exact hh.elim
            | 18, hh => exact hh.elim
            | 19, hh => exact hh.elim
            | 20, hh => exact hh.elim
            | 21, hh => exact ⟨rfl, hh⟩
            | 22, hh => exact hh.elim
            | 23, hh => exact hh.elim
            | m + 24, hh => exact hh.elim
          rcases a with ⟨rfl, a⟩ <;> rcases a' with ⟨rfl, a'⟩
          all_goals first | exact absurd rfl hne | (exact hne rfl)
      · refine ⟨?_, ?_, ?_, ?_, ?_, ?_, ?_, ?_, ?_, ?_, ?_, ?_, ?_, ?_, ?_, ?_, ?_, ?_, ?_, ?_, ?_, ?_, ?_, ?_, trivial⟩
        · refine Ord.owes_plain rfl fun ρ Os wo hs' hb hc' => ?_
          have h0 : ρ (.tmp 0) = .slice (some ⟨g, 0, none⟩) L cap := hs'.old' 0 (by kernel_rfl)
          exact Any.ok_move (Ord.post_val rfl h0)
        · refine Ord.owes_plain rfl fun ρ Os wo hs' hb hc' => ?_
          have h1 : ρ (.tmp 1) = .int .i64 ((a : Nat) : Int) := hs'.old' 1 (by kernel_rfl)
          exact Any.ok_move (Ord.post_val rfl h1)
        · refine Ord.owes_plain rfl fun ρ Os wo hs' hb hc' => ?_
          have h10 : ρ (.tmp 10) = .int .i64 ((k : Nat) : Int) := hs'.old' 10 (by kernel_rfl)
          exact Any.ok_move (Ord.post_val rfl h10)
        · refine Ord.owes_plain rfl fun ρ Os wo hs' hb hc' => ?_
          have h17 : ρ (.tmp 17) = .int .i64 ((a : Nat) : Int) := hs'.val' 17 1 (by kernel_rfl) rfl
          have h18 : ρ (.tmp 18) = .int .i64 ((k : Nat) : Int) := hs'.val' 18 2 (by kernel_rfl) rfl
          have ew := EWI.out
          go_simp
          exact Ord.post_val rfl rfl
        · refine Ord.owes_plain rfl fun ρ Os wo hs' hb hc' => ?_
          have h0 : ρ (.tmp 0) = .slice (some ⟨g, 0, none⟩) L cap := hs'.old' 0 (by kernel_rfl)
          exact Any.ok_move (Ord.post_val rfl h0)
        · refine Ord.owes_plain rfl fun ρ Os wo hs' hb hc' => ?_
          have h2 : ρ (.tmp 2) = .int .i64 ((b : Nat) : Int) := hs'.old' 2 (by kernel_rfl)
          exact Any.ok_move (Ord.post_val rfl h2)
        · refine Ord.owes_plain rfl fun ρ Os wo hs' hb hc' => ?_
          have h10 : ρ (.tmp 10) = .int .i64 ((k : Nat) : Int) := hs'.old' 10 (by kernel_rfl)
          exact Any.ok_move (Ord.post_val rfl h10)
        · refine Ord.owes_plain rfl fun ρ Os wo hs' hb hc' => ?_
          have h21 : ρ (.tmp 21) = .int .i64 ((b : Nat) : Int) := hs'.val' 21 5 (by kernel_rfl) rfl
          have h22 : ρ (.tmp 22) = .int .i64 ((k : Nat) : Int) := hs'.val' 22 6 (by kernel_rfl) rfl
          have ew := EWJ.out
          go_simp
          exact Ord.post_val rfl rfl
        · refine Ord.owes_plain rfl fun ρ Os wo hs' hb hc' => ?_
          have h0 : ρ (.tmp 0) = .slice (some ⟨g, 0, none⟩) L cap := hs'.old' 0 (by kernel_rfl)
          exact Any.ok_move (Ord.post_val rfl h0)
        · refine Ord.owes_plain rfl fun ρ Os wo hs' hb hc' => ?_
          have h2 : ρ (.tmp 2) = .int .i64 ((b : Nat) : Int) := hs'.old' 2 (by kernel_rfl)
          exact Any.ok_move (Ord.post_val rfl h2)
        · refine Ord.owes_plain rfl fun ρ Os wo hs' hb hc' => ?_
          have h10 : ρ (.tmp 10) = .int .i64 ((k : Nat) : Int) := hs'.old' 10 (by kernel_rfl)
          exact Any.ok_move (Ord.post_val rfl h10)
        · refine Ord.owes_plain rfl fun ρ Os wo hs' hb hc' => ?_
          have h25 : ρ (.tmp 25) = .int .i64 ((b : Nat) : Int) := hs'.val' 25 9 (by kernel_rfl) rfl
          have h26 : ρ (.tmp 26) = .int .i64 ((k : Nat) : Int) := hs'.val' 26 10 (by kernel_rfl) rfl
          have ew := EWJ.out
          go_simp
          exact Ord.post_val rfl rfl
        · refine Ord.owes_plain rfl fun ρ Os wo hs' hb hc' => ?_
          have h24 : ρ (.tmp 24) = .slice (some ⟨g, 0, none⟩) L cap := hs'.val' 24 8 (by kernel_rfl) rfl
          have h27 : ρ (.tmp 27) = .int .i64 ((j : Nat) : Int) := hs'.val' 27 11 (by kernel_rfl) rfl
          go_simp
          exact Ord.post_val rfl rfl
        · refine Ord.owes_plain rfl fun ρ Os wo hs' hb hc' => ?_
          have h28 : ρ (.tmp 28) = .pointer (some ⟨g, j * 6, none⟩) := hs'.val' 28 12 (by kernel_rfl) rfl
          have hp := HPY.out wo (hs'.early' 21 (by kernel_rfl) g rfl)
          have c0 := hp.1
          have c1 := hp.2.1
          have c2 := hp.2.2.1
          have c3 := hp.2.2.2.1
          have c4 := hp.2.2.2.2.1
          have c5 := hp.2.2.2.2.2
          go_simp
          exact Ord.post_val rfl rfl
        · refine Ord.owes_plain rfl fun ρ Os wo hs' hb hc' => ?_
          have h0 : ρ (.tmp 0) = .slice (some ⟨g, 0, none⟩) L cap := hs'.old' 0 (by kernel_rfl)
          exact Any.ok_move (Ord.post_val rfl h0)
        · refine Ord.owes_plain rfl fun ρ Os wo hs' hb hc' => ?_
          have h1 : ρ (.tmp 1) = .int .i64 ((a : Nat) : Int) := hs'.old' 1 (by kernel_rfl)
          exact Any.ok_move (Ord.post_val rfl h1)
        · refine Ord.owes_plain rfl fun ρ Os wo hs' hb hc' => ?_
          have h10 : ρ (.tmp 10) = .int .i64 ((k : Nat) : Int) := hs'.old' 10 (by kernel_rfl)
          exact Any.ok_move (Ord.post_val rfl h10)
        · refine Ord.owes_plain rfl fun ρ Os wo hs' hb hc' => ?_
          have h31 : ρ (.tmp 31) = .int .i64 ((a : Nat) : Int) := hs'.val' 31 15 (by kernel_rfl) rfl
          have h32 : ρ (.tmp 32) = .int .i64 ((k : Nat) : Int) := hs'.val' 32 16 (by kernel_rfl) rfl
          have ew := EWI.out
          go_simp
          exact Ord.post_val rfl rfl
        · refine Ord.owes_plain rfl fun ρ Os wo hs' hb hc' => ?_
          have h30 : ρ (.tmp 30) = .slice (some ⟨g, 0, none⟩) L cap := hs'.val' 30 14 (by kernel_rfl) rfl
          have h33 : ρ (.tmp 33) = .int .i64 ((i : Nat) : Int) := hs'.val' 33 17 (by kernel_rfl) rfl
          go_simp
          exact Ord.post_val rfl rfl
        · refine Ord.owes_plain rfl fun ρ Os wo hs' hb hc' => ?_
          have h34 : ρ (.tmp 34) = .pointer (some ⟨g, i * 6, none⟩) := hs'.val' 34 18 (by kernel_rfl) rfl
          have hp := HPX.out wo (hs'.early' 21 (by kernel_rfl) g rfl)
          have c0 := hp.1
          have c1 := hp.2.1
          have c2 := hp.2.2.1
          have c3 := hp.2.2.2.1
          have c4 := hp.2.2.2.2.1
          have c5 := hp.2.2.2.2.2
          go_simp
          exact Ord.post_val rfl rfl
        · refine Ord.owes_plain rfl fun ρ Os wo hs' hb hc' => ?_
          have h16 : ρ (.tmp 16) = .slice (some ⟨g, 0, none⟩) L cap := hs'.val' 16 0 (by kernel_rfl) rfl
          have h19 : ρ (.tmp 19) = .int .i64 ((i : Nat) : Int) := hs'.val' 19 3 (by kernel_rfl) rfl
          go_simp
          exact Ord.post_val rfl rfl
        · refine Ord.owes_plain rfl fun ρ Os wo hs' hb hc' => ?_
          have h36 : ρ (.tmp 36) = .pointer (some ⟨g, i * 6, none⟩) := hs'.val' 36 20 (by kernel_rfl) rfl
          have h29 : ρ (.tmp 29) = .agg #[.string y0, .string y1, .string y2, .int .i64 y3, .int .i64 y4, .bool y5] := hs'.val' 29 13 (by kernel_rfl) rfl
          exact Ord.ok_cutrow h36 h29 HO.out (fun q hq => hs'.here q hq) HST.out.1 (by kernel_rfl) (by simp [Value.oneCell']) rfl
        · refine Ord.owes_plain rfl fun ρ Os wo hs' hb hc' => ?_
          have h20 : ρ (.tmp 20) = .slice (some ⟨g, 0, none⟩) L cap := hs'.val' 20 4 (by kernel_rfl) rfl
          have h23 : ρ (.tmp 23) = .int .i64 ((j : Nat) : Int) := hs'.val' 23 7 (by kernel_rfl) rfl
          go_simp
          exact Ord.post_val rfl rfl
        · refine Ord.owes_plain rfl fun ρ Os wo hs' hb hc' => ?_
          have h37 : ρ (.tmp 37) = .pointer (some ⟨g, j * 6, none⟩) := hs'.val' 37 22 (by kernel_rfl) rfl
          have h35 : ρ (.tmp 35) = .agg #[.string x0, .string x1, .string x2, .int .i64 x3, .int .i64 x4, .bool x5] := hs'.val' 35 19 (by kernel_rfl) rfl
          exact Ord.ok_cutrow2 h37 h35 (hs'.stood' 21 (by kernel_rfl)) HST.out.2 (by kernel_rfl) (by simp [Value.oneCell']) rfl
      intro vals Os ρs w9 hk hkn hln hap hbd
      obtain ⟨k1, -⟩ := hkn 23 (by kernel_rfl)
      have HK9 := Lib.hid hk
      have HO9 := Lib.hid k1
      clear hkn hln hap hbd hk k1
      simp only [Any.putAll]
      go_frame
      go_wp2_with fail
      go_roundw
      case rel => exact ⟨k + 1, HKL.out, by go_num, by rw [HN.out]; exact HO9.out, grown_then HG.out ⟨HK9.out.os, HK9.out.tape, HK9.out.output, HK9.out.size, fun q hq hn => HK9.out.block q hq (fun e => hn e.symm)⟩⟩
      case measure => have := HKL.out; (simp [intOf]) <;> omega
    · have hki : ¬ ((k : Nat) : Int) < (n : Int) := by omega
      have HE : Hid (k = n) := Lib.hid (by omega)
      clear hown hgr hlt hk
      go_wp2_with fail
      go_end0
      refine ⟨rfl, ?_, HG.out⟩
      have := HO.out
      rw [HE.out] at this
      rw [swN_length, HL.out]
      exact this
end Go.Proofs.Ytnlfhncbnfmccaa.Sc
namespace Go.Proofs.Ytnlfhncbnfmccaa.Sc
open Go Go.RowKit Go.ChangeShapes Go.WideShapes Go.ChangeAt Go.Sort Go.Shelf
set_option maxRecDepth 100000

set_option maxHeartbeats 4000000 in
theorem rot_any (P A C Q : List Pg) (hA : 0 < A.length) (hC : 0 < C.length) (g cap B L a m b : Nat) (w : World) (hL : (P ++ A ++ C ++ Q).length = L) (ha : P.length = a) (hm : a + A.length = m) (hb : m + C.length = b)
    (h : w.ownsRow B 37 6 (.slice (some ⟨g, 0, none⟩) L cap) L (pgCells (P ++ A ++ C ++ Q))) (hl : L ≤ 1000000) :
    Calls Try.prog 65 #[.slice (some ⟨g, 0, none⟩) L cap, .int .i64 a, .int .i64 m, .int .i64 b, .func (.func 27) #[] #[]] w (SortP w B (.slice (some ⟨g, 0, none⟩) L cap) (P ++ C ++ A ++ Q)) := by
  obtain ⟨T, hT⟩ : ∃ T, T = P ++ C ++ A ++ Q := ⟨_, rfl⟩
  have HTL : Hid (T.length = L) := Lib.hid (by rw [hT, ← hL]; simp; omega)
  rw [← hT]
  have HH := Lib.hid h
  have HT := Lib.hid hT
  have HLL := Lib.hid (And.intro hL (And.intro ha (And.intro hm (And.intro hb (And.intro hA hC)))))
  have hbl : b ≤ L := by simp at hL; omega
  have e1 : (m : Int) - (a : Int) = (A.length : Int) := by omega
  have e2 : (b : Int) - (m : Int) = (C.length : Int) := by omega
  have hbm : m ≤ b := by omega
  have ham : a ≤ m := by omega
  have HL6 := Lib.hid (And.intro hl (And.intro hbm hbl))
  have EW1 : IntKind.i64.wrap ((m : Int) - (a : Int)) = (A.length : Int) := by rw [IntKind.wrap_i64]; omega
  have EW2 : IntKind.i64.wrap ((b : Int) - (m : Int)) = (C.length : Int) := by rw [IntKind.wrap_i64]; omega
  clear h hT hL ha hm hb hA hC
  go_enter Try.func65, Try.ntmps65
  go_wp2_with fail
  clear EW1 EW2
  go_loopw [10, 11] (fun iv jv wr => ∃ (X A' C' Y : List Pg), iv = .int .i64 (A'.length : Nat) ∧ jv = .int .i64 (C'.length : Nat) ∧ 0 < A'.length ∧ 0 < C'.length ∧ X.length + A'.length = m ∧ m + C'.length ≤ b ∧ (X ++ A' ++ C' ++ Y).length = L ∧ X ++ C' ++ A' ++ Y = T ∧ wr.ownsRow B 37 6 (.slice (some ⟨g, 0, none⟩) L cap) L (pgCells (X ++ A' ++ C' ++ Y)) ∧ w.grownBy wr (some g)) (fun i j _ => (intOf i).toNat + (intOf j).toNat)
  case atStart => exact ⟨P, A, C, Q, rfl, rfl, HLL.out.2.2.2.2.1, HLL.out.2.2.2.2.2, by have := HLL.out; omega, by have := HLL.out; omega, HLL.out.1, HT.out.symm, HH.out, ⟨rfl, rfl, rfl, Nat.le_refl _, fun _ _ _ => rfl⟩⟩
  case round =>
    obtain ⟨X, A', C', Y, rfl, rfl, hA, hC, hx, hcb, hLn, hTT, hown, hgr⟩ := hrel
    obtain ⟨i, hi⟩ : ∃ i, A'.length = i := ⟨_, rfl⟩
    obtain ⟨j, hj⟩ : ∃ j, C'.length = j := ⟨_, rfl⟩
    obtain ⟨x, hxx⟩ : ∃ x, X.length = x := ⟨_, rfl⟩
    have HG := Lib.hid hgr
    have HO := Lib.hid hown
    have HN := Lib.hid (And.intro hi (And.intro hj (And.intro hxx (And.intro hLn hTT))))
    have HP := Lib.hid (And.intro hA (And.intro hC (And.intro hx hcb)))
    have HSW := Lib.hid (fun (a b n : Nat) (h1 : a + n ≤ L) (h2 : b + n ≤ L) => (by
      have := swapR_any (X ++ A' ++ C' ++ Y) g cap B a b n (.func (.func 27) #[] #[]) wr (by rw [hLn]; exact hown) (by omega) (by omega) (by omega)
      rw [hLn] at this
      exact this : Calls Try.prog 77 #[.slice (some ⟨g, 0, none⟩) L cap, .int .i64 a, .int .i64 b, .int .i64 n, .func (.func 27) #[] #[]] wr (SortP wr B (.slice (some ⟨g, 0, none⟩) L cap) (swN (X ++ A' ++ C' ++ Y) a b n))))
    rw [hi, hj]
    have hi0 : 0 < i := by omega
    have hj0 : 0 < j := by omega
    have hxm : x + i = m := by omega
    have hmj : m + j ≤ L := by omega
    have e1 : (m : Int) - (i : Int) = (x : Int) := by omega
    have EW1 : IntKind.i64.wrap ((m : Int) - (i : Int)) = (x : Int) := by rw [IntKind.wrap_i64]; omega
    clear hown hgr hLn hTT hi hj hxx hA hC hx hcb
    rcases Nat.lt_trichotomy i j with hij | hij | hij
    · have t1 : (((i : Nat) : Int) != (j : Int)) = true := by simp; omega
      have t2 : decide ((j : Int) < (i : Int)) = false := decide_eq_false (by omega)
      have HSC := Lib.hid (HSW.out x (m + j - i) i (by omega) (by omega))
      have EW2 : IntKind.i64.wrap ((m : Int) + (j : Int)) = ((m + j : Nat) : Int) := by rw [IntKind.wrap_i64]; omega
      obtain ⟨y, hy⟩ : ∃ y, y = m + j - i := ⟨_, rfl⟩
      rw [← hy] at HSC
      have e3 : (m : Int) + (j : Int) - (i : Int) = (y : Int) := by omega
      have e4 : (j : Int) - (i : Int) = ((j - i : Nat) : Int) := by omega
      have HY := Lib.hid hy
      have HIJ := Lib.hid hij
      clear HSW hy hij
      go_wp2_with (first
        | ((refine HSC.out.mono ?_); rintro e w2 ⟨rfl, ho2, hg2⟩; have HO2 := Lib.hid ho2; have HG2 := Lib.hid hg2; clear ho2 hg2)
        | fail)
      go_roundw
      case rel =>
        obtain ⟨hi, hj, hxx, hLn, hTT⟩ := HN.out
        have hij := HIJ.out
        obtain ⟨C1, C2, rfl, h1, h2⟩ : ∃ C1 C2, C' = C1 ++ C2 ∧ C1.length = j - i ∧ C2.length = i := ⟨C'.take (j - i), C'.drop (j - i), (List.take_append_drop _ _).symm, by rw [List.length_take]; omega, by rw [List.length_drop]; omega⟩
        have hs := swN_is i X A' C1 C2 Y x y hxx hi (by have := HY.out; omega) h2
        have e5 : X ++ A' ++ (C1 ++ C2) ++ Y = X ++ A' ++ C1 ++ C2 ++ Y := by simp
        refine ⟨X, C2, C1, A' ++ Y, by rw [h2], by rw [h1], by omega, by omega, by omega, by have := HP.out; omega, by rw [← hLn]; simp; omega, by rw [← hTT]; simp, ?_, grown_then HG.out HG2.out⟩
        have := HO2.out
        rw [e5, hs] at this
        have e6 : X ++ C2 ++ C1 ++ A' ++ Y = X ++ C2 ++ C1 ++ (A' ++ Y) := by simp
        rw [e6] at this
        have hl2 : (X ++ C2 ++ C1 ++ (A' ++ Y)).length = L := by rw [← hLn]; simp; omega
        rw [hl2] at this
        exact this
      case measure => have := HIJ.out; (simp [intOf]) <;> omega
    · subst hij
      have t1 : (((i : Nat) : Int) != (i : Int)) = false := by simp
      have HSC := Lib.hid (HSW.out x m i (by omega) (by omega))
      clear HSW
      go_wp2_with (first
        | ((refine HSC.out.mono ?_); rintro e w2 ⟨rfl, ho2, hg2⟩; have HO2 := Lib.hid ho2; have HG2 := Lib.hid hg2; clear ho2 hg2)
        | fail)
      go_end0
      obtain ⟨hi, hj, hxx, hLn, hTT⟩ := HN.out
      have hs := swN_is i X A' [] C' Y x m hxx hi (by simp; omega) hj
      simp only [List.append_nil] at hs
      have h3 := HO2.out
      rw [hs, hTT, HTL.out] at h3
      refine ⟨rfl, ?_, grown_then HG.out HG2.out⟩
      rw [HTL.out]
      exact h3
    · have t1 : (((i : Nat) : Int) != (j : Int)) = true := by simp; omega
      have t2 : decide ((j : Int) < (i : Int)) = true := decide_eq_true (by omega)
      have HSC := Lib.hid (HSW.out x m j (by omega) (by omega))
      have e4 : (i : Int) - (j : Int) = ((i - j : Nat) : Int) := by omega
      have HIJ := Lib.hid hij
      clear HSW hij
      go_wp2_with (first
        | ((refine HSC.out.mono ?_); rintro e w2 ⟨rfl, ho2, hg2⟩; have HO2 := Lib.hid ho2; have HG2 := Lib.hid hg2; clear ho2 hg2)
        | fail)
      go_roundw
      case rel =>
        obtain ⟨hi, hj, hxx, hLn, hTT⟩ := HN.out
        have hij := HIJ.out
        obtain ⟨A1, A2, rfl, h1, h2⟩ : ∃ A1 A2, A' = A1 ++ A2 ∧ A1.length = j ∧ A2.length = i - j := ⟨A'.take j, A'.drop j, (List.take_append_drop _ _).symm, by rw [List.length_take]; omega, by rw [List.length_drop]; omega⟩
        have hs := swN_is j X A1 A2 C' Y x m hxx h1 (by omega) hj
        have e5 : X ++ (A1 ++ A2) ++ C' ++ Y = X ++ A1 ++ A2 ++ C' ++ Y := by simp
        refine ⟨X ++ C', A2, A1, Y, by rw [h2], by rw [h1], by omega, by omega, by simp; omega, by have := HP.out; omega, by rw [← hLn]; simp; omega, by rw [← hTT]; simp, ?_, grown_then HG.out HG2.out⟩
        have h3 := HO2.out
        rw [e5, hs] at h3
        have hl2 : (X ++ C' ++ A2 ++ A1 ++ Y).length = L := by rw [← hLn]; simp; omega
        rw [hl2] at h3
        exact h3
      case measure => have := HIJ.out; (simp [intOf]) <;> omega
end Go.Proofs.Ytnlfhncbnfmccaa.Sc
