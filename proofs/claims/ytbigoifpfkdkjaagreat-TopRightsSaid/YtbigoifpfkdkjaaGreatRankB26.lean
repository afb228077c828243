/- slices.SortStableFunc at at most 20 pledges; Rank: by the program. -/
import Derived.Test.YtbigoifpfkdkjaaGreatRank26
namespace Go.Proofs.YtbigoifpfkdkjaaGreat.Sc
open Go Go.RowKit Go.ChangeShapes Go.WideShapes Go.ChangeAt Go.Sort Go.Shelf
set_option maxRecDepth 100000

theorem size_insInner {α : Type} [Inhabited α] (lt : α → α → Bool) (a : Nat) : ∀ (j : Nat) (d : Array α), (insInner lt a j d).size = d.size
  | 0, _ => rfl
  | j + 1, d => by
    rw [insInner]
    split
    · rw [size_insInner lt a j]; simp [swp]
    · rfl
theorem size_insOuter {α : Type} [Inhabited α] (lt : α → α → Bool) (a b : Nat) : ∀ (n i : Nat) (d : Array α), b - i = n → (insOuter lt a b i d).size = d.size
  | 0, i, d, h => by rw [insOuter, if_neg (by omega)]
  | n + 1, i, d, h => by
    rw [insOuter, if_pos (by omega), size_insOuter lt a b n (i + 1) _ (by omega), size_insInner]
theorem size_ins {α : Type} [Inhabited α] (lt : α → α → Bool) (d : Array α) (a b : Nat) : (insertionSort lt d a b).size = d.size := size_insOuter lt a b _ _ d rfl
theorem ins_none {α : Type} [Inhabited α] (lt : α → α → Bool) (d : Array α) (a : Nat) : insertionSort lt d a a = d := by rw [insertionSort, insOuter, if_neg (by omega)]
def SortP (w : World) (B : Nat) (v : Value) (D : List Pg) (e : Ending) (w' : World) : Prop := e = .returned (.tuple #[]) ∧ w'.ownsRow B 27 6 v D.length (pgCells D) ∧ w.grownBy w' v.ownBlock
theorem insNil_any (w : World) (fv : Value) : Calls Tryz.prog 51 #[.slice none 0 0, .int .i64 0, .int .i64 0, fv] w (fun e w' => e = .returned (.tuple #[]) ∧ w' = w) := by
  go_enter Tryz.func51, Tryz.ntmps51
  go_wp2
  refine wp_loop_rounds 1 ?_
  rw [rounds_succ]
  go_wp2
  go_end0
  exact ⟨rfl, rfl⟩
/-- The library's insertion sort at an own row. -/
theorem insert_any (D : List Pg) (g cap B : Nat) (a b : Nat) (w : World) (h : w.ownsRow B 27 6 (.slice (some ⟨g, 0, none⟩) D.length cap) D.length (pgCells D)) (hab : a ≤ b) (hb : b ≤ D.length) (hl : D.length ≤ 1000000) :
    Calls Tryz.prog 51 #[.slice (some ⟨g, 0, none⟩) D.length cap, .int .i64 a, .int .i64 b, .func (.func 20) #[] #[]] w
      (SortP w B (.slice (some ⟨g, 0, none⟩) D.length cap) (insertionSort (ltOf cmpP) D.toArray a b).toList) := by
  obtain ⟨hH, hlt⟩ := own_holdsP (d := D.toArray) h
  have eg : ∀ args w, (callFunc 20 args).run Tryz.prog w = .ok (.enter 20 args) w := enters_of Tryz.func20 (by kernel_rfl) rfl
  have hcl : CmpLays Tryz.prog 20 #[] Pg.row 6 cmpP g 0 D.toArray.size w := fun _ _ _ _ x y => before_any x y _
  have hcon := AnyQ.insertionSortCmpFunc Tryz.insPg 6 Tryz.isAgg27 Tryz.sizeOf27 Pg.row (fun _ => rfl) (fun x v hv => pg_one x v hv) cmpP 20 #[] g 0 cap a b D.toArray w eg hcl hH hlt hab (by simpa using hb) (by simp; omega)
  have hsz : D.toArray.size = D.length := by simp
  rw [hsz] at hcon
  refine hcon.mono ?_
  rintro e w' ⟨rfl, q, os, rfl⟩
  have hdl : (insertionSort (ltOf cmpP) D.toArray a b).size = D.length := by rw [size_ins]; simp
  have ho := own_put (m := q) (os := os) (F := flatK Pg.row 6 (insertionSort (ltOf cmpP) D.toArray a b)) h (by rw [size_flatK, hdl, pgCells_flat, flat_len (sz := 6) _ (pg_rows D)]; simp)
  rw [flat_pgs] at ho
  refine ⟨rfl, ?_, ho.2⟩
  have h2 := ho.1
  rw [show (insertionSort (ltOf cmpP) D.toArray a b).toList.length = D.length from by simpa using hdl]
  exact h2
theorem rankOf_length (D : List Pg) : (rankOf D).length = D.length := (rankOf_perm D).length_eq
set_option maxHeartbeats 4000000 in
theorem stable_any (D : List Pg) (v : Value) (B : Nat) (w : World) (h : w.ownsRow B 27 6 v D.length (pgCells D)) (hl : D.length ≤ 20) :
    Calls Tryz.prog 33 #[v, .int .i64 (D.length : Int), .func (.func 20) #[] #[]] w (SortP w B v (rankOf D)) := by
  rcases h.2 with ⟨rfl, h0⟩ | ⟨g, cap, cur, rfl, hg, hh, h3, h4, h5, h6⟩
  · obtain rfl : D = [] := List.length_eq_zero_iff.1 h0
    have HN := Lib.hid (fun W => insNil_any W (.func (.func 20) #[] #[]))
    have HH := Lib.hid h
    clear h hl h0
    go_enter Tryz.func33, Tryz.ntmps33
    go_wp2_with fail
    refine wp_loop_rounds 1 ?_
    rw [rounds_succ]
    go_wp2_with (first | ((with_reducible refine (HN.out _).mono ?_); rintro e w2 ⟨rfl, rfl⟩) | fail)
    refine wp_loop_rounds 1 ?_
    rw [rounds_succ]
    go_wp2_with fail
    go_end0
    exact ⟨rfl, HH.out, rfl, rfl, rfl, Nat.le_refl _, fun _ _ _ => rfl⟩
  · have HI1 := Lib.hid (by
      have h1 := insert_any D g cap B 0 D.length w h (Nat.zero_le _) (Nat.le_refl _) (by omega)
      rwa [rank_is] at h1 : Calls Tryz.prog 51 #[.slice (some ⟨g, 0, none⟩) D.length cap, .int .i64 (0 : Nat), .int .i64 D.length, .func (.func 20) #[] #[]] w (SortP w B (.slice (some ⟨g, 0, none⟩) D.length cap) (rankOf D)))
    clear hh h3 h4 h5 h6 hg
    by_cases hn : D.length = 20
    · have HI2 := Lib.hid (fun W (hW : W.ownsRow B 27 6 (.slice (some ⟨g, 0, none⟩) D.length cap) (rankOf D).length (pgCells (rankOf D))) => (by
        have h1 := insert_any (rankOf D) g cap B 20 20 W (by rw [rankOf_length] at hW ⊢; exact hW) (Nat.le_refl _) (by rw [rankOf_length]; omega) (by rw [rankOf_length]; omega)
        rw [ins_none, rankOf_length, hn] at h1
        exact h1 : Calls Tryz.prog 51 #[.slice (some ⟨g, 0, none⟩) 20 cap, .int .i64 (20 : Nat), .int .i64 (20 : Nat), .func (.func 20) #[] #[]] W (SortP W B (.slice (some ⟨g, 0, none⟩) 20 cap) (rankOf D))))
      rw [hn] at HI1 HI2 ⊢
      clear h hl hn
      generalize rankOf D = E at *
      go_enter Tryz.func33, Tryz.ntmps33
      go_wp2_with fail
      refine wp_loop_rounds 2 ?_
      rw [rounds_succ]
      go_wp2_with (first
        | (refine HI1.out.mono ?_; rintro e w2 ⟨rfl, ho2, hg2⟩; have HO2 := Lib.hid ho2; have HG2 := Lib.hid hg2; clear ho2 hg2)
        | fail)
      rw [rounds_succ]
      go_wp2_with (first
        | (refine (HI2.out _ HO2.out).mono ?_; rintro e w3 ⟨rfl, ho3, hg3⟩; have HO3 := Lib.hid ho3; have HG3 := Lib.hid hg3; clear ho3 hg3)
        | fail)
      refine wp_loop_rounds 1 ?_
      rw [rounds_succ]
      go_wp2_with fail
      go_end0
      exact ⟨rfl, HO3.out, grown_then HG2.out HG3.out⟩
    · have t1 : decide ((20 : Int) ≤ (D.length : Int)) = false := decide_eq_false (by omega)
      have t2 : decide (20 ≤ D.length) = false := decide_eq_false (by omega)
      have t3 : decide ((20 : Int) < (D.length : Int)) = false := decide_eq_false (by omega)
      have t4 : decide (20 < D.length) = false := decide_eq_false (by omega)
      clear h hl hn
      go_enter Tryz.func33, Tryz.ntmps33
      go_wp2_with fail
      refine wp_loop_rounds 1 ?_
      rw [rounds_succ]
      go_wp2_with (first
        | (refine HI1.out.mono ?_; rintro e w2 ⟨rfl, ho2, hg2⟩; have HO2 := Lib.hid ho2; have HG2 := Lib.hid hg2; clear ho2 hg2)
        | fail)
      refine wp_loop_rounds 1 ?_
      rw [rounds_succ]
      go_wp2_with fail
      go_end0
      exact ⟨rfl, HO2.out, HG2.out⟩
end Go.Proofs.YtbigoifpfkdkjaaGreat.Sc
