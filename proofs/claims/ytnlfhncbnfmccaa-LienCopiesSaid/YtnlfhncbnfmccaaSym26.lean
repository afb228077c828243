/- slices.symMergeCmpFunc, stableCmpFunc, SortStableFunc at pledges; Rank: by the program. -/
import Derived.Test.YtnlfhncbnfmccaaTurn26
import Derived.Deep.CutRange
namespace Go.Proofs.Ytnlfhncbnfmccaa.Sc
open Go Go.RowKit Go.ChangeShapes Go.WideShapes Go.ChangeAt Go.Sort Go.Shelf
set_option maxRecDepth 100000

theorem beforeB (x y : Pg) (W : World) : Calls Try.prog 27 #[.agg x.cells, .agg y.cells] W (fun e w' => e = .returned (.int .i64 (cmpP x y)) ∧ Below W.heap.size W w') := by
  refine (before_any x y W).mono ?_
  rintro e w' ⟨rfl, q, os, rfl⟩
  exact ⟨rfl, ⟨rfl, rfl, rfl, by simp [Go.Sort.grow, World.drewN], fun k hk => by simp [Go.Sort.grow, World.drewN, Array.getElem?_append_left, hk]⟩⟩
theorem cmp_less (x y : Pg) : decide (cmpP x y < 0) = less x y := by rw [← lt_less]; rfl
theorem below_grown {w w' w0 : World} {g : Nat} (h : w0.grownBy w (some g)) (hb : Below w.heap.size w w') : w0.grownBy w' (some g) :=
  grown_then h ⟨hb.os, hb.tape, hb.output, hb.size, fun k hk _ => hb.block k hk⟩
theorem asc_at {C : List Pg} (hs : Asc C) {s t : Nat} (ht : t < C.length) (hst : s < t) : less C[t] (C[s]'(by omega)) = false := List.pairwise_iff_getElem.1 hs s t (by omega) ht hst
theorem asc_lo {C : List Pg} (hs : Asc C) {k : Nat} (hk : k < C.length) {x : Pg} (h : less C[k] x = true) (t : Nat) (ht : t < C.length) (htk : t ≤ k) : less C[t] x = true := by
  rcases Nat.lt_or_ge t k with h1 | h1
  · cases hx : less C[t] x with
    | true => rfl
    | false =>
      have := less_trans (asc_at hs hk h1) hx
      rw [h] at this
      cases this
  · obtain rfl : t = k := by omega
    exact h
theorem asc_hi {C : List Pg} (hs : Asc C) {k : Nat} (hk : k < C.length) {x : Pg} (h : less C[k] x = false) (t : Nat) (ht : t < C.length) (htk : k ≤ t) : less C[t] x = false := by
  rcases Nat.lt_or_ge k t with h1 | h1
  · exact less_trans (asc_at hs ht h1) h
  · obtain rfl : t = k := by omega
    exact h
theorem asc_lo2 {A : List Pg} (hs : Asc A) {k : Nat} (hk : k < A.length) {y : Pg} (h : less y A[k] = true) (t : Nat) (ht : t < A.length) (htk : k ≤ t) : less y A[t] = true := by
  rcases Nat.lt_or_ge k t with h1 | h1
  · exact less_lt h (asc_at hs ht h1)
  · obtain rfl : t = k := by omega
    exact h
theorem asc_hi2 {A : List Pg} (hs : Asc A) {k : Nat} (hk : k < A.length) {y : Pg} (h : less y A[k] = false) (t : Nat) (ht : t < A.length) (htk : t ≤ k) : less y A[t] = false := by
  rcases Nat.lt_or_ge t k with h1 | h1
  · exact less_trans h (asc_at hs hk h1)
  · obtain rfl : t = k := by omega
    exact h
theorem at_pos {U V E : List Pg} {x : Pg} {q : Nat} (he : E = U ++ x :: V) (hq : U.length = q) (h : q < E.length) : E[q] = x := by
  subst he hq
  rw [List.getElem_append_right (Nat.le_refl _)]
  simp
theorem swL_at2 {P Q : List Pg} {x y : Pg} {i j : Nat} (hi : P.length = i) (hj : j = i + 1) : swL (P ++ x :: y :: Q) j i = P ++ y :: x :: Q := by
  subst hi hj
  have h1 : (P ++ x :: y :: Q)[P.length]'(by simp) = x := at_pos rfl rfl _
  have h2 : (P ++ x :: y :: Q)[P.length + 1]'(by simp) = y := at_pos (U := P ++ [x]) (V := Q) (by simp) (by simp) _
  rw [← swL_set (by simp) (by simp), h1, h2, List.set_append_right _ _ (by omega)]
  have : P.length + 1 - P.length = 1 := by omega
  rw [this, List.set_append_right _ _ (Nat.le_refl _), Nat.sub_self]
  rfl
set_option maxHeartbeats 8000000 in
/-- One alone ahead. -/
theorem symL_any (P C Q : List Pg) (x : Pg) (hC : 0 < C.length) (hsC : Asc C) (g cap B L a m b : Nat) (w : World) (hL : (P ++ [x] ++ C ++ Q).length = L) (ha : P.length = a) (hm : a + 1 = m) (hb : m + C.length = b)
    (hw : w.ownsRow B 37 6 (.slice (some ⟨g, 0, none⟩) L cap) L (pgCells (P ++ [x] ++ C ++ Q))) (hl : L ≤ 1000000) :
    Calls Try.prog 57 #[.slice (some ⟨g, 0, none⟩) L cap, .int .i64 a, .int .i64 m, .int .i64 b, .func (.func 27) #[] #[]] w (SortP w B (.slice (some ⟨g, 0, none⟩) L cap) (P ++ mg [x] C ++ Q)) := by
  obtain ⟨D, hD⟩ : ∃ D, D = P ++ [x] ++ C ++ Q := ⟨_, rfl⟩
  obtain ⟨R, hR⟩ : ∃ R, R = P ++ mg [x] C ++ Q := ⟨_, rfl⟩
  have HR := Lib.hid hR
  rw [← hR]
  clear hR
  have HDX : Hid (∀ h : a < D.length, D[a] = x) := Lib.hid (fun h => by subst hD ha; simp)
  have HDY : Hid (∀ t (h : t < C.length) (h2 : m + t < D.length), D[m + t] = C[t]) := Lib.hid (fun t h h2 => by
    subst hD
    rw [List.getElem_append_left (by simp; omega), List.getElem_append_right (by simp; omega)]
    congr 1
    simp
    omega)
  rw [← hD] at hw hL
  have HD := Lib.hid hD
  have HGL : Hid (g < w.heap.size) := Lib.hid (own_holdsP (d := D.toArray) hw).2
  have HW := Lib.hid hw
  have HLL := Lib.hid (And.intro hL (And.intro ha (And.intro hm (And.intro hb hC))))
  have HSC := Lib.hid hsC
  have hbl : b ≤ L := by rw [← hL, hD]; simp; omega
  have hml : m ≤ b := by omega
  have hal : (a : Int) < (L : Int) := by omega
  have e1 : (m : Int) - (a : Int) = 1 := by omega
  have t1 : ((m : Int) - (a : Int) == 1) = true := by rw [e1]; rfl
  clear hw hL ha hm hb hC hsC hD
  go_enter Try.func57, Try.ntmps57
  go_wp2_with fail
  go_loopw [10, 11, 12] (fun iv jv _ wr => ∃ i j : Nat, m ≤ i ∧ i ≤ j ∧ j ≤ b ∧ iv = .int .i64 (i : Nat) ∧ jv = .int .i64 (j : Nat) ∧ (∀ t (h : t < C.length), m + t < i → less C[t] x = true) ∧ (∀ t (h : t < C.length), j ≤ m + t → less C[t] x = false) ∧ wr.ownsRow B 37 6 (.slice (some ⟨g, 0, none⟩) L cap) L (pgCells D) ∧ w.grownBy wr (some g)) (fun i j _ _ => (intOf j - intOf i).toNat)
  case atStart => exact ⟨m, b, Nat.le_refl _, by omega, Nat.le_refl _, rfl, rfl, fun t _ h => absurd h (by omega), fun t h h2 => absurd h2 (by have := HLL.out; omega), HW.out, ⟨rfl, rfl, rfl, Nat.le_refl _, fun _ _ _ => rfl⟩⟩
  case round =>
    obtain ⟨i, j, hmi, hij, hjb, rfl, rfl, hlo, hhi, hown, hgr⟩ := hrel
    have HG := Lib.hid hgr
    have HO := Lib.hid hown
    have HI := Lib.hid (And.intro hlo hhi)
    by_cases hlt : i < j
    · have hki : ((i : Nat) : Int) < (j : Int) := by omega
      obtain ⟨h, hh⟩ : ∃ h, h = (i + j) / 2 := ⟨_, rfl⟩
      have eh : ((i : Int) + (j : Int)) / 2 = ((h : Nat) : Int) := by omega
      have hih : i ≤ h := by omega
      have hhj : h < j := by omega
      have HIH := Lib.hid (And.intro hih hhj)
      have hhl : (h : Int) < (L : Int) := by omega
      have htC : h - m < C.length := by have := HLL.out; omega
      have hDl : D.length = L := HLL.out.1
      have ehm : m + (h - m) = h := by omega
      have HPX := Lib.hid (own_pgAt hown (q := a) (by omega))
      have HPY := Lib.hid (own_pgAt hown (q := h) (by omega))
      have hx : D[a]'(by omega) = x := HDX.out _
      have hy : D[h]'(by omega) = C[h - m] := by
        have := HDY.out (h - m) htC (by omega)
        simp only [ehm] at this
        exact this
      rw [hx] at HPX
      rw [hy] at HPY
      have HBF := Lib.hid (beforeB C[h - m] x)
      obtain ⟨T, hT⟩ : ∃ T, less C[h - m] x = T := ⟨_, rfl⟩
      have HT := Lib.hid hT
      have tq := cmp_less C[h - m] x
      rw [hT] at tq
      generalize cmpP C[h - m] x = q at *
      have HGL := Lib.hid (Nat.lt_of_lt_of_le HGL.out HG.out.size)
      have HNF : Hid (T = false → ∀ t (ht : t < C.length), h ≤ m + t → less C[t] x = false) := Lib.hid (fun e t ht h2 => asc_hi HSC.out htC (hT.trans e) t ht (by omega))
      have HNT : Hid (T = true → ∀ t (ht : t < C.length), m + t < h + 1 → less C[t] x = true) := Lib.hid (fun e t ht h2 => asc_lo HSC.out htC (hT.trans e) t ht (by omega))
      generalize C[h - m] = y at *
      obtain ⟨x0, x1, x2, x3, x4, x5⟩ := x
      obtain ⟨y0, y1, y2, y3, y4, y5⟩ := y
      simp only [Pg.cells, PgAt] at HPX HPY HBF
      have HJB := Lib.hid (And.intro hmi hjb)
      clear hx hy hT hown hgr hlo hhi htC hDl ehm hh hih hhj HT
      go_wp2_with fail
      clear eh
      refine Any.region_lit (fun
        | 0 => Any.val (.func (.func 27) #[] #[])
        | 1 => Any.val (.slice (some ⟨g, 0, none⟩) L cap)
        | 2 => Any.val (.int .i64 ((h : Nat) : Int))
        | 3 => Any.val (.pointer (some ⟨g, h * 6, none⟩))
        | 4 => Any.val (.agg #[.string y0, .string y1, .string y2, .int .i64 y3, .int .i64 y4, .bool y5])
        | 5 => Any.val (.slice (some ⟨g, 0, none⟩) L cap)
        | 6 => Any.val (.int .i64 ((a : Nat) : Int))
        | 7 => Any.val (.pointer (some ⟨g, a * 6, none⟩))
        | 8 => Any.val (.agg #[.string x0, .string x1, .string x2, .int .i64 x3, .int .i64 x4, .bool x5])
        | 9 => Any.val (.int .i64 q)
        | 10 => Any.val (.bool T)
        | _ => Any.idle) (by kernel_rfl) (by kernel_rfl) (by kernel_rfl) ?_ ?_ ?_
      · intro i _
        match i with
        | 0 => exact Any.lasts_val _
        | 1 => exact Any.lasts_val _
        | 2 => exact Any.lasts_val _
        | 3 => exact Any.lasts_val _
        | 4 => exact Any.lasts_val _
        | 5 => exact Any.lasts_val _
        | 6 => exact Any.lasts_val _
        | 7 => exact Any.lasts_val _
        | 8 => exact Any.lasts_val _
        | 9 => exact Any.lasts_val _
        | 10 => exact Any.lasts_val _
        | n + 11 => exact Any.lasts_idle
      · refine ⟨?_, ?_, ?_, ?_, ?_, ?_, ?_, ?_, ?_, ?_, ?_, trivial⟩
        · refine Any.owes_plain rfl fun ρ wo hs' hb hc' => ?_
          have h4 : ρ (.tmp 4) = .func (.func 27) #[] #[] := hs'.old' 4 (by kernel_rfl)
          exact Any.ok_move (Any.post_val hb rfl h4)
        · refine Any.owes_plain rfl fun ρ wo hs' hb hc' => ?_
          have h0 : ρ (.tmp 0) = .slice (some ⟨g, 0, none⟩) L cap := hs'.old' 0 (by kernel_rfl)
          exact Any.ok_move (Any.post_val hb rfl h0)
        · refine Any.owes_plain rfl fun ρ wo hs' hb hc' => ?_
          have h12 : ρ (.tmp 12) = .int .i64 ((h : Nat) : Int) := hs'.old' 12 (by kernel_rfl)
          exact Any.ok_move (Any.post_val hb rfl h12)
        · refine Any.owes_plain rfl fun ρ wo hs' hb hc' => ?_
          have h41 : ρ (.tmp 41) = .slice (some ⟨g, 0, none⟩) L cap := hs'.new' 41 1 (by kernel_rfl)
          have h42 : ρ (.tmp 42) = .int .i64 ((h : Nat) : Int) := hs'.new' 42 2 (by kernel_rfl)
          go_simp
          exact Any.post_val hb rfl rfl
        · refine Any.owes_plain rfl fun ρ wo hs' hb hc' => ?_
          have h43 : ρ (.tmp 43) = .pointer (some ⟨g, h * 6, none⟩) := hs'.new' 43 3 (by kernel_rfl)
          have hp := HPY.out wo ((below_undrew hb).block g HGL.out)
          have c0 := hp.1
          have c1 := hp.2.1
          have c2 := hp.2.2.1
          have c3 := hp.2.2.2.1
          have c4 := hp.2.2.2.2.1
          have c5 := hp.2.2.2.2.2
          go_simp
          exact Any.post_val hb rfl rfl
        · refine Any.owes_plain rfl fun ρ wo hs' hb hc' => ?_
          have h0 : ρ (.tmp 0) = .slice (some ⟨g, 0, none⟩) L cap := hs'.old' 0 (by kernel_rfl)
          exact Any.ok_move (Any.post_val hb rfl h0)
        · refine Any.owes_plain rfl fun ρ wo hs' hb hc' => ?_
          have h1 : ρ (.tmp 1) = .int .i64 ((a : Nat) : Int) := hs'.old' 1 (by kernel_rfl)
          exact Any.ok_move (Any.post_val hb rfl h1)
        · refine Any.owes_plain rfl fun ρ wo hs' hb hc' => ?_
          have h45 : ρ (.tmp 45) = .slice (some ⟨g, 0, none⟩) L cap := hs'.new' 45 5 (by kernel_rfl)
          have h46 : ρ (.tmp 46) = .int .i64 ((a : Nat) : Int) := hs'.new' 46 6 (by kernel_rfl)
          go_simp
          exact Any.post_val hb rfl rfl
        · refine Any.owes_plain rfl fun ρ wo hs' hb hc' => ?_
          have h47 : ρ (.tmp 47) = .pointer (some ⟨g, a * 6, none⟩) := hs'.new' 47 7 (by kernel_rfl)
          have hp := HPX.out wo ((below_undrew hb).block g HGL.out)
          have c0 := hp.1
          have c1 := hp.2.1
          have c2 := hp.2.2.1
          have c3 := hp.2.2.2.1
          have c4 := hp.2.2.2.2.1
          have c5 := hp.2.2.2.2.2
          go_simp
          exact Any.post_val hb rfl rfl
        · refine Any.owes_plain rfl fun ρ wo hs' hb hc' => ?_
          have h40 : ρ (.tmp 40) = .func (.func 27) #[] #[] := hs'.new' 40 0 (by kernel_rfl)
          have h44 : ρ (.tmp 44) = .agg #[.string y0, .string y1, .string y2, .int .i64 y3, .int .i64 y4, .bool y5] := hs'.new' 44 4 (by kernel_rfl)
          have h48 : ρ (.tmp 48) = .agg #[.string x0, .string x1, .string x2, .int .i64 x3, .int .i64 x4, .bool x5] := hs'.new' 48 8 (by kernel_rfl)
          go_simp
          exact (HBF.out wo).mono fun e w' ⟨he, hb'⟩ => ⟨_, he, Any.post_vals hb rfl rfl hb'⟩
        · refine Any.owes_plain rfl fun ρ wo hs' hb hc' => ?_
          have h49 : ρ (.tmp 49) = .int .i64 q := hs'.new' 49 9 (by kernel_rfl)
          go_simp
          exact Any.post_val hb rfl rfl
      intro vals w5 hb hk ha
      have hT : vals 10 = .bool T := hk 10 (by kernel_rfl)
      have HBC := Lib.hid hb
      clear hk ha hb
      simp only [Any.putAll]
      go_frame
      simp only [Nat.zero_add, Nat.reduceAdd]
      rw [hT]
      clear hT
      have HG5 := Lib.hid (below_grown HG.out HBC.out)
      have HO5 := Lib.hid (ownsRow_below HO.out HBC.out)
      cases T
      · have HNF := Lib.hid (HNF.out rfl)
        go_wp2_with fail
        go_roundw
        case rel => exact ⟨i, h, HJB.out.1, HIH.out.1, by have := HIH.out; have := HJB.out; omega, rfl, rfl, HI.out.1, HNF.out, HO5.out, HG5.out⟩
        case measure => have := HIH.out; (simp [intOf]) <;> omega
      · have HNT := Lib.hid (HNT.out rfl)
        go_wp2_with fail
        go_roundw
        case rel => exact ⟨h + 1, j, by have := HIH.out; have := HJB.out; omega, by have := HIH.out; omega, HJB.out.2, by go_num, rfl, HNT.out, HI.out.2, HO5.out, HG5.out⟩
        case measure => have := HIH.out; (simp [intOf]) <;> omega
    · have hki : ¬ ((i : Nat) : Int) < (j : Int) := by omega
      obtain rfl : i = j := by omega
      have hic : i - m ≤ C.length := by have := HLL.out; omega
      have HMG : Hid (mg [x] C = C.take (i - m) ++ [x] ++ C.drop (i - m)) := Lib.hid (mg_left hic (fun t ht h1 => hlo t ht (by omega)) (fun t ht h1 => hhi t ht (by omega)))
      have HIB := Lib.hid (And.intro hmi hjb)
      have e2 : (i : Int) - 1 = ((i - 1 : Nat) : Int) := by have := HLL.out; omega
      obtain ⟨i1, hi1⟩ : ∃ i1, i1 = i - 1 := ⟨_, rfl⟩
      rw [← hi1] at e2
      have HI1 := Lib.hid hi1
      clear hown hgr hlo hhi hij hic hi1 hlt
      go_wp2_with fail
      go_loopw [13] (fun kv wr => ∃ k : Nat, a ≤ k ∧ k ≤ i1 ∧ kv = .int .i64 (k : Nat) ∧ wr.ownsRow B 37 6 (.slice (some ⟨g, 0, none⟩) L cap) L (pgCells (P ++ C.take (k - a) ++ [x] ++ C.drop (k - a) ++ Q)) ∧ w.grownBy wr (some g)) (fun k _ => i1 - (intOf k).toNat)
      case atStart => exact ⟨a, Nat.le_refl _, by have := HI1.out; have := HIB.out; have := HLL.out; omega, rfl, by rw [Nat.sub_self]; have := HO.out; rw [HD.out] at this; simpa using this, HG.out⟩
      case round =>
        obtain ⟨k, hak, hki1, rfl, hown, hgr⟩ := hrel
        have HG := Lib.hid hgr
        have HO := Lib.hid hown
        by_cases hlt : k < i1
        · have hki : ((k : Nat) : Int) < (i1 : Int) := by omega
          have HKL := Lib.hid (And.intro hak hlt)
          obtain ⟨k1, hk1⟩ : ∃ k1, k1 = k + 1 := ⟨_, rfl⟩
          have EWK : Hid (IntKind.i64.wrap ((k : Int) + 1) = ((k1 : Nat) : Int)) := Lib.hid (by rw [IntKind.wrap_i64]; have := HIB.out; have := HI1.out; omega)
          have hcl : k - a < C.length := by have := HIB.out; have := HI1.out; have := HLL.out; omega
          have hEs : P ++ C.take (k - a) ++ [x] ++ C.drop (k - a) ++ Q = (P ++ C.take (k - a)) ++ x :: C[k - a] :: (C.drop (k - a + 1) ++ Q) := by rw [List.drop_eq_getElem_cons hcl]; simp only [List.append_assoc, List.cons_append, List.nil_append]
          have hUl : (P ++ C.take (k - a)).length = k := by have := HLL.out; simp; omega
          have HSL : Hid (pgCells (P ++ C.take (k + 1 - a) ++ [x] ++ C.drop (k + 1 - a) ++ Q) = pgCells (swL (P ++ C.take (k - a) ++ [x] ++ C.drop (k - a) ++ Q) k k1)) := Lib.hid (by
            have h1 := swL_at (P := P ++ C.take (k - a)) (M := []) (Q := C.drop (k - a + 1) ++ Q) (x := x) (y := C[k - a]) hUl (j := k1) (by simp at hUl ⊢; omega)
            rw [List.nil_append, List.nil_append] at h1
            rw [hEs, h1, show k + 1 - a = k - a + 1 by omega, List.take_succ_eq_append_getElem hcl]
            simp only [List.append_assoc, List.cons_append, List.nil_append])
          have hkl : k1 < (P ++ C.take (k - a) ++ [x] ++ C.drop (k - a) ++ Q).length := by rw [hEs]; simp at hUl ⊢; omega
          have hEl : (P ++ C.take (k - a) ++ [x] ++ C.drop (k - a) ++ Q).length = L := by have := hown.1; rw [pgCells_ln] at this; omega
          generalize P ++ C.take (k - a) ++ [x] ++ C.drop (k - a) ++ Q = E at *
          have hx := at_pos hEs hUl (by omega)
          have hy := at_pos (E := E) (U := P ++ C.take (k - a) ++ [x]) (x := C[k - a]) (V := C.drop (k - a + 1) ++ Q) (q := k1) (by rw [hEs]; simp) (by simp at hUl ⊢; omega) hkl
          have HPX := Lib.hid (own_pgAt hown (q := k) (by omega))
          have HPY := Lib.hid (own_pgAt hown (q := k1) (by omega))
          have HST := Lib.hid (sw_sets (B := B) (g := g) (cap := cap) (n := L) (E := E) (i := k) (j := k1) (by omega) (by omega))
          rw [hx] at HPX
          rw [hy] at HPY
          rw [hx, hy] at HST
          generalize C[k - a] = y at *
          generalize E.set k y = E1 at *
          generalize swL E k k1 = E2 at *
          clear hx hy hEs
          obtain ⟨x0, x1, x2, x3, x4, x5⟩ := x
          obtain ⟨y0, y1, y2, y3, y4, y5⟩ := y
          simp only [Pg.cells, PgAt] at HPX HPY HST
          have hkz : (k : Int) < (L : Int) := by omega
          have hk1z : (k1 : Int) < (L : Int) := by omega
          clear hown hgr hkl hEl hUl hk1 hcl hlt hak hki1
          go_wp2_with fail
          refine Ord.region_lit (fun
            | 0 => Ord.val (.slice (some ⟨g, 0, none⟩) L cap)
            | 1 => Ord.val (.int .i64 ((k : Nat) : Int))
            | 2 => Ord.val (.slice (some ⟨g, 0, none⟩) L cap)
            | 3 => Ord.val (.int .i64 ((k : Nat) : Int))
            | 4 => Ord.val (.int .i64 ((k1 : Nat) : Int))
            | 5 => Ord.val (.slice (some ⟨g, 0, none⟩) L cap)
            | 6 => Ord.val (.int .i64 ((k : Nat) : Int))
            | 7 => Ord.val (.int .i64 ((k1 : Nat) : Int))
            | 8 => Ord.val (.pointer (some ⟨g, k1 * 6, none⟩))
            | 9 => Ord.val (.agg #[.string y0, .string y1, .string y2, .int .i64 y3, .int .i64 y4, .bool y5])
            | 10 => Ord.val (.slice (some ⟨g, 0, none⟩) L cap)
            | 11 => Ord.val (.int .i64 ((k : Nat) : Int))
            | 12 => Ord.val (.pointer (some ⟨g, k * 6, none⟩))
            | 13 => Ord.val (.agg #[.string x0, .string x1, .string x2, .int .i64 x3, .int .i64 x4, .bool x5])
            | 14 => Ord.val (.pointer (some ⟨g, k * 6, none⟩))
            | 15 => Ord.cutrow B 37 6 L (pgCells E1) (.slice (some ⟨g, 0, none⟩) L cap)
            | 16 => Ord.val (.pointer (some ⟨g, k1 * 6, none⟩))
            | 17 => Ord.cutrow2 B 37 6 L (pgCells E2) (.slice (some ⟨g, 0, none⟩) L cap) 15
            | _ => Ord.idle) (fun b => (.slice (some ⟨g, 0, none⟩) L cap : Value).ownBlock = some b) (by kernel_rfl) (by kernel_rfl) (by kernel_rfl) ?_ ?_ ?_ ?_
          · intro i _
            match i with
            | 0 => exact Ord.lasts_val _
            | 1 => exact Ord.lasts_val _
            | 2 => exact Ord.lasts_val _
            | 3 => exact Ord.lasts_val _
            | 4 => exact Ord.lasts_val _
            | 5 => exact Ord.lasts_val _
            | 6 => exact Ord.lasts_val _
            | 7 => exact Ord.lasts_val _
            | 8 => exact Ord.lasts_val _
            | 9 => exact Ord.lasts_val _
            | 10 => exact Ord.lasts_val _
            | 11 => exact Ord.lasts_val _
            | 12 => exact Ord.lasts_val _
            | 13 => exact Ord.lasts_val _
            | 14 => exact Ord.lasts_val _
            | 15 => exact Ord.lasts_cutrow _ _ _ _ _ _
            | 16 => exact Ord.lasts_val _
            | 17 => exact Ord.lasts_cutrow2 _ _ _ _ _ _ _
            | n + 18 => exact Ord.lasts_idle
          · refine ⟨fun k b _ hh => ?_, fun k b _ hh => ?_, fun k k' b _ _ hne h1 h2 => ?_⟩
            · match k, hh with
              | 0, hh => exact hh.elim
              | 1, hh => exact hh.elim
              | 2, hh => exact hh.elim
              | 3, hh => exact hh.elim
              | 4, hh => exact hh.elim
              | 5, hh => exact hh.elim
              | 6, hh => exact hh.elim
              | 7, hh => exact hh.elim
              | 8, hh => exact hh.elim
              | 9, hh => exact hh.elim
              | 10, hh => exact hh.elim
              | 11, hh => exact hh.elim
              | 12, hh => exact hh.elim
              | 13, hh => exact hh.elim
              | 14, hh => exact hh.elim
              | 15, hh => exact hh
              | 16, hh => exact hh.elim
              | 17, hh => exact hh.elim
              | m + 18, hh => exact hh.elim
            · match k, hh with
              | 0, hh => exact hh.elim
              | 1, hh => exact hh.elim
              | 2, hh => exact hh.elim
              | 3, hh => exact hh.elim
              | 4, hh => exact hh.elim
              | 5, hh => exact hh.elim
              | 6, hh => exact hh.elim
              | 7, hh => exact hh.elim
              | 8, hh => exact hh.elim
              | 9, hh => exact hh.elim
              | 10, hh => exact hh.elim
              | 11, hh => exact hh.elim
              | 12, hh => exact hh.elim
              | 13, hh => exact hh.elim
              | 14, hh => exact hh.elim
              | 15, hh => exact (HO.out.lt _ hh).2
              | 16, hh => exact hh.elim
              | 17, hh => exact hh.elim
              | m + 18, hh => exact hh.elim
            · have a : (k = 15 ∧ (fun b => (.slice (some ⟨g, 0, none⟩) L cap : Value).ownBlock = some b) b) := by
                match k, h1 with
                | 0, hh => exact hh.elim
                | 1, hh => exact hh.elim
                | 2, hh => exact hh.elim
                | 3, hh => exact hh.elim
                | 4, hh => exact hh.elim
                | 5, hh => exact hh.elim
                | 6, hh => exact hh.elim
                | 7, hh => exact hh.elim
                | 8, hh => exact hh.elim
                | 9, hh => exact hh.elim
                | 10, hh => exact hh.elim
                | 11, hh => exact hh.elim
                | 12, hh => exact hh.elim
                | 13, hh => exact hh.elim
                | 14, hh => exact hh.elim
                | 15, hh => exact ⟨rfl, hh⟩
                | 16, hh => exact hh.elim
                | 17, hh => exact hh.elim
                | m + 18, hh => exact hh.elim
              have a' : (k' = 15 ∧ (fun b => (.slice (some ⟨g, 0, none⟩) L cap : Value).ownBlock = some b) b) := by
                match k', h2 with
                | 0, hh => exact hh.elim
                | 1, hh => exact hh.elim
                | 2, hh => exact hh.elim
                | 3, hh => exact hh.elim
                | 4, hh => exact hh.elim
                | 5, hh => exact hh.elim
                | 6, hh => exact hh.elim
                | 7, hh => exact hh.elim
                | 8, hh => exact hh.elim
                | 9, hh => exact hh.elim
                | 10, hh => exact hh.elim
                | 11, hh => exact hh.elim
                | 12, hh => exact hh.elim
                | 13, hh => exact hh.elim
                | 14, hh => exact hh.elim
                | 15, hh => exact ⟨rfl, hh⟩
                | 16, hh => exact hh.elim
                | 17, hh => exact hh.elim
                | m + 18, hh => exact hh.elim
              rcases a with ⟨rfl, a⟩ <;> rcases a' with ⟨rfl, a'⟩
              all_goals first | exact absurd rfl hne | (exact hne rfl)
          · refine ⟨?_, ?_, ?_, ?_, ?_, ?_, ?_, ?_, ?_, ?_, ?_, ?_, ?_, ?_, ?_, ?_, ?_, ?_, trivial⟩
            · refine Ord.owes_plain rfl fun ρ Os wo hs' hb hc' => ?_
              have h0 : ρ (.tmp 0) = .slice (some ⟨g, 0, none⟩) L cap := hs'.old' 0 (by kernel_rfl)
              exact Any.ok_move (Ord.post_val rfl h0)
            · refine Ord.owes_plain rfl fun ρ Os wo hs' hb hc' => ?_
              have h13 : ρ (.tmp 13) = .int .i64 ((k : Nat) : Int) := hs'.old' 13 (by kernel_rfl)
              exact Any.ok_move (Ord.post_val rfl h13)
            · refine Ord.owes_plain rfl fun ρ Os wo hs' hb hc' => ?_
              have h0 : ρ (.tmp 0) = .slice (some ⟨g, 0, none⟩) L cap := hs'.old' 0 (by kernel_rfl)
              exact Any.ok_move (Ord.post_val rfl h0)
            · refine Ord.owes_plain rfl fun ρ Os wo hs' hb hc' => ?_
              have h13 : ρ (.tmp 13) = .int .i64 ((k : Nat) : Int) := hs'.old' 13 (by kernel_rfl)
              exact Any.ok_move (Ord.post_val rfl h13)
            · refine Ord.owes_plain rfl fun ρ Os wo hs' hb hc' => ?_
              have h64 : ρ (.tmp 64) = .int .i64 ((k : Nat) : Int) := hs'.val' 64 3 (by kernel_rfl) rfl
              have ew := EWK.out
              go_simp
              exact Ord.post_val rfl rfl
            · refine Ord.owes_plain rfl fun ρ Os wo hs' hb hc' => ?_
              have h0 : ρ (.tmp 0) = .slice (some ⟨g, 0, none⟩) L cap := hs'.old' 0 (by kernel_rfl)
              exact Any.ok_move (Ord.post_val rfl h0)
            · refine Ord.owes_plain rfl fun ρ Os wo hs' hb hc' => ?_
              have h13 : ρ (.tmp 13) = .int .i64 ((k : Nat) : Int) := hs'.old' 13 (by kernel_rfl)
              exact Any.ok_move (Ord.post_val rfl h13)
            · refine Ord.owes_plain rfl fun ρ Os wo hs' hb hc' => ?_
              have h67 : ρ (.tmp 67) = .int .i64 ((k : Nat) : Int) := hs'.val' 67 6 (by kernel_rfl) rfl
              have ew := EWK.out
              go_simp
              exact Ord.post_val rfl rfl
            · refine Ord.owes_plain rfl fun ρ Os wo hs' hb hc' => ?_
              have h66 : ρ (.tmp 66) = .slice (some ⟨g, 0, none⟩) L cap := hs'.val' 66 5 (by kernel_rfl) rfl
              have h68 : ρ (.tmp 68) = .int .i64 ((k1 : Nat) : Int) := hs'.val' 68 7 (by kernel_rfl) rfl
              go_simp
              exact Ord.post_val rfl rfl
            · refine Ord.owes_plain rfl fun ρ Os wo hs' hb hc' => ?_
              have h69 : ρ (.tmp 69) = .pointer (some ⟨g, k1 * 6, none⟩) := hs'.val' 69 8 (by kernel_rfl) rfl
              have hp := HPY.out wo (hs'.early' 15 (by kernel_rfl) g rfl)
              have c0 := hp.1
              have c1 := hp.2.1
              have c2 := hp.2.2.1
              have c3 := hp.2.2.2.1
              have c4 := hp.2.2.2.2.1
              have c5 := hp.2.2.2.2.2
              go_simp
              exact Ord.post_val rfl rfl
            · refine Ord.owes_plain rfl fun ρ Os wo hs' hb hc' => ?_
              have h0 : ρ (.tmp 0) = .slice (some ⟨g, 0, none⟩) L cap := hs'.old' 0 (by kernel_rfl)
              exact Any.ok_move (Ord.post_val rfl h0)
            · refine Ord.owes_plain rfl fun ρ Os wo hs' hb hc' => ?_
              have h13 : ρ (.tmp 13) = .int .i64 ((k : Nat) : Int) := hs'.old' 13 (by kernel_rfl)
              exact Any.ok_move (Ord.post_val rfl h13)
            · refine Ord.owes_plain rfl fun ρ Os wo hs' hb hc' => ?_
              have h71 : ρ (.tmp 71) = .slice (some ⟨g, 0, none⟩) L cap := hs'.val' 71 10 (by kernel_rfl) rfl
              have h72 : ρ (.tmp 72) = .int .i64 ((k : Nat) : Int) := hs'.val' 72 11 (by kernel_rfl) rfl
              go_simp
              exact Ord.post_val rfl rfl
            · refine Ord.owes_plain rfl fun ρ Os wo hs' hb hc' => ?_
              have h73 : ρ (.tmp 73) = .pointer (some ⟨g, k * 6, none⟩) := hs'.val' 73 12 (by kernel_rfl) rfl
              have hp := HPX.out wo (hs'.early' 15 (by kernel_rfl) g rfl)
              have c0 := hp.1
              have c1 := hp.2.1
              have c2 := hp.2.2.1
              have c3 := hp.2.2.2.1
              have c4 := hp.2.2.2.2.1
              have c5 := hp.2.2.2.2.2
              go_simp
              exact Ord.post_val rfl rfl
            · refine Ord.owes_plain rfl fun ρ Os wo hs' hb hc' => ?_
              have h61 : ρ (.tmp 61) = .slice (some ⟨g, 0, none⟩) L cap := hs'.val' 61 0 (by kernel_rfl) rfl
              have h62 : ρ (.tmp 62) = .int .i64 ((k : Nat) : Int) := hs'.val' 62 1 (by kernel_rfl) rfl
              go_simp
              exact Ord.post_val rfl rfl
            · refine Ord.owes_plain rfl fun ρ Os wo hs' hb hc' => ?_
              have h75 : ρ (.tmp 75) = .pointer (some ⟨g, k * 6, none⟩) := hs'.val' 75 14 (by kernel_rfl) rfl
              have h70 : ρ (.tmp 70) = .agg #[.string y0, .string y1, .string y2, .int .i64 y3, .int .i64 y4, .bool y5] := hs'.val' 70 9 (by kernel_rfl) rfl
              exact Ord.ok_cutrow h75 h70 HO.out (fun q hq => hs'.here q hq) HST.out.1 (by kernel_rfl) (by simp [Value.oneCell']) rfl
            · refine Ord.owes_plain rfl fun ρ Os wo hs' hb hc' => ?_
              have h63 : ρ (.tmp 63) = .slice (some ⟨g, 0, none⟩) L cap := hs'.val' 63 2 (by kernel_rfl) rfl
              have h65 : ρ (.tmp 65) = .int .i64 ((k1 : Nat) : Int) := hs'.val' 65 4 (by kernel_rfl) rfl
              go_simp
              exact Ord.post_val rfl rfl
            · refine Ord.owes_plain rfl fun ρ Os wo hs' hb hc' => ?_
              have h76 : ρ (.tmp 76) = .pointer (some ⟨g, k1 * 6, none⟩) := hs'.val' 76 16 (by kernel_rfl) rfl
              have h74 : ρ (.tmp 74) = .agg #[.string x0, .string x1, .string x2, .int .i64 x3, .int .i64 x4, .bool x5] := hs'.val' 74 13 (by kernel_rfl) rfl
              exact Ord.ok_cutrow2 h76 h74 (hs'.stood' 15 (by kernel_rfl)) HST.out.2 (by kernel_rfl) (by simp [Value.oneCell']) rfl
          intro vals Os ρs w9 hk hkn hln hap hbd
          obtain ⟨k1, -⟩ := hkn 17 (by kernel_rfl)
          have HK9 := Lib.hid hk
          have HO9 := Lib.hid k1
          clear hkn hln hap hbd hk k1
          simp only [Any.putAll]
          go_frame
          go_wp2_with fail
          go_roundw
          case rel => exact ⟨k + 1, by have := HKL.out; omega, HKL.out.2, by go_num, by rw [HSL.out]; exact HO9.out, grown_then HG.out ⟨HK9.out.os, HK9.out.tape, HK9.out.output, HK9.out.size, fun q hq hn => HK9.out.block q hq (fun e => hn e.symm)⟩⟩
          case measure => have := HKL.out; (simp [intOf]) <;> omega
        · have hki : ¬ ((k : Nat) : Int) < (i1 : Int) := by omega
          have HKE : Hid (k - a = i - m) := Lib.hid (by have := HI1.out; have := HIB.out; have := HLL.out; omega)
          clear hown hgr hlt hak hki1
          go_wp2_with fail
          go_end0
          refine ⟨rfl, ?_, HG.out⟩
          have h1 := HO.out
          rw [HKE.out] at h1
          have h2 : R = P ++ C.take (i - m) ++ [x] ++ C.drop (i - m) ++ Q := by rw [HR.out, HMG.out]; simp only [List.append_assoc, List.cons_append, List.nil_append]
          have h3 : R.length = L := by have := h1.1; rw [pgCells_ln] at this; rw [h2]; omega
          rw [h3, h2]
          exact h1
end Go.Proofs.Ytnlfhncbnfmccaa.Sc
namespace Go.Proofs.Ytnlfhncbnfmccaa.Sc
open Go Go.RowKit Go.ChangeShapes Go.WideShapes Go.ChangeAt Go.Sort Go.Shelf
set_option maxRecDepth 100000

set_option maxHeartbeats 8000000 in
/-- One alone behind. -/
theorem symR_any (P A Q : List Pg) (y : Pg) (hA : 1 < A.length) (hsA : Asc A) (g cap B L a m b : Nat) (w : World) (hL : (P ++ A ++ [y] ++ Q).length = L) (ha : P.length = a) (hm : a + A.length = m) (hb : m + 1 = b)
    (hw : w.ownsRow B 37 6 (.slice (some ⟨g, 0, none⟩) L cap) L (pgCells (P ++ A ++ [y] ++ Q))) (hl : L ≤ 1000000) :
    Calls Try.prog 57 #[.slice (some ⟨g, 0, none⟩) L cap, .int .i64 a, .int .i64 m, .int .i64 b, .func (.func 27) #[] #[]] w (SortP w B (.slice (some ⟨g, 0, none⟩) L cap) (P ++ mg A [y] ++ Q)) := by
  obtain ⟨D, hD⟩ : ∃ D, D = P ++ A ++ [y] ++ Q := ⟨_, rfl⟩
  obtain ⟨R, hR⟩ : ∃ R, R = P ++ mg A [y] ++ Q := ⟨_, rfl⟩
  have HR := Lib.hid hR
  rw [← hR]
  clear hR
  have HDX : Hid (∀ h : m < D.length, D[m] = y) := Lib.hid (fun h => at_pos (U := P ++ A) (V := Q) (by rw [hD]; simp) (by simp; omega) h)
  have HDY : Hid (∀ t (h : t < A.length) (h2 : a + t < D.length), D[a + t] = A[t]) := Lib.hid (fun t h h2 => by
    subst hD
    rw [List.getElem_append_left (by simp; omega), List.getElem_append_left (by simp; omega), List.getElem_append_right (by omega)]
    congr 1
    omega)
  rw [← hD] at hw hL
  have HD := Lib.hid hD
  have HGL : Hid (g < w.heap.size) := Lib.hid (own_holdsP (d := D.toArray) hw).2
  have HW := Lib.hid hw
  have HLL := Lib.hid (And.intro hL (And.intro ha (And.intro hm (And.intro hb hA))))
  have HSA := Lib.hid hsA
  have hbl : b ≤ L := by rw [← hL, hD]; simp; omega
  have hml : a ≤ m := by omega
  have hmL : (m : Int) < (L : Int) := by omega
  have e1 : (m : Int) - (a : Int) = (A.length : Int) := by omega
  have t1 : (((A.length : Nat) : Int) == 1) = false := by simp; omega
  have e2 : (b : Int) - (m : Int) = 1 := by omega
  clear hw hL ha hm hb hA hsA hD
  go_enter Try.func57, Try.ntmps57
  go_wp2_with fail
  go_loopw [14, 15, 16] (fun iv jv _ wr => ∃ i j : Nat, a ≤ i ∧ i ≤ j ∧ j ≤ m ∧ iv = .int .i64 (i : Nat) ∧ jv = .int .i64 (j : Nat) ∧ (∀ t (h : t < A.length), a + t < i → less y A[t] = false) ∧ (∀ t (h : t < A.length), j ≤ a + t → less y A[t] = true) ∧ wr.ownsRow B 37 6 (.slice (some ⟨g, 0, none⟩) L cap) L (pgCells D) ∧ w.grownBy wr (some g)) (fun i j _ _ => (intOf j - intOf i).toNat)
  case atStart => exact ⟨a, m, Nat.le_refl _, by omega, Nat.le_refl _, rfl, rfl, fun t _ h => absurd h (by omega), fun t h h2 => absurd h2 (by have := HLL.out; omega), HW.out, ⟨rfl, rfl, rfl, Nat.le_refl _, fun _ _ _ => rfl⟩⟩
  case round =>
    obtain ⟨i, j, hmi, hij, hjb, rfl, rfl, hlo, hhi, hown, hgr⟩ := hrel
    have HG := Lib.hid hgr
    have HO := Lib.hid hown
    have HI := Lib.hid (And.intro hlo hhi)
    by_cases hlt : i < j
    · have hki : ((i : Nat) : Int) < (j : Int) := by omega
      obtain ⟨h, hh⟩ : ∃ h, h = (i + j) / 2 := ⟨_, rfl⟩
      have eh : ((i : Int) + (j : Int)) / 2 = ((h : Nat) : Int) := by omega
      have hih : i ≤ h := by omega
      have hhj : h < j := by omega
      have HIH := Lib.hid (And.intro hih hhj)
      have hhl : (h : Int) < (L : Int) := by omega
      have htC : h - a < A.length := by have := HLL.out; omega
      have hDl : D.length = L := HLL.out.1
      have ehm : a + (h - a) = h := by omega
      have HPY := Lib.hid (own_pgAt hown (q := m) (by omega))
      have HPX := Lib.hid (own_pgAt hown (q := h) (by omega))
      have hy : D[m]'(by omega) = y := HDX.out _
      have hx : D[h]'(by omega) = A[h - a] := by
        have := HDY.out (h - a) htC (by omega)
        simp only [ehm] at this
        exact this
      rw [hx] at HPX
      rw [hy] at HPY
      have HBF := Lib.hid (beforeB y A[h - a])
      obtain ⟨T, hT⟩ : ∃ T, less y A[h - a] = T := ⟨_, rfl⟩
      have tq := cmp_less y A[h - a]
      rw [hT] at tq
      generalize cmpP y A[h - a] = q at *
      have HGL := Lib.hid (Nat.lt_of_lt_of_le HGL.out HG.out.size)
      have HNF : Hid (T = false → ∀ t (ht : t < A.length), a + t < h + 1 → less y A[t] = false) := Lib.hid (fun e t ht h2 => asc_hi2 HSA.out htC (hT.trans e) t ht (by omega))
      have HNT : Hid (T = true → ∀ t (ht : t < A.length), h ≤ a + t → less y A[t] = true) := Lib.hid (fun e t ht h2 => asc_lo2 HSA.out htC (hT.trans e) t ht (by omega))
      generalize A[h - a] = x at *
      obtain ⟨x0, x1, x2, x3, x4, x5⟩ := x
      obtain ⟨y0, y1, y2, y3, y4, y5⟩ := y
      simp only [Pg.cells, PgAt] at HPX HPY HBF
      have HJB := Lib.hid (And.intro hmi hjb)
      clear hx hy hT hown hgr hlo hhi htC hDl ehm hh hih hhj
      go_wp2_with fail
      clear eh
      refine Any.region_lit (fun
        | 0 => Any.val (.func (.func 27) #[] #[])
        | 1 => Any.val (.slice (some ⟨g, 0, none⟩) L cap)
        | 2 => Any.val (.int .i64 ((m : Nat) : Int))
        | 3 => Any.val (.pointer (some ⟨g, m * 6, none⟩))
        | 4 => Any.val (.agg #[.string y0, .string y1, .string y2, .int .i64 y3, .int .i64 y4, .bool y5])
        | 5 => Any.val (.slice (some ⟨g, 0, none⟩) L cap)
        | 6 => Any.val (.int .i64 ((h : Nat) : Int))
        | 7 => Any.val (.pointer (some ⟨g, h * 6, none⟩))
        | 8 => Any.val (.agg #[.string x0, .string x1, .string x2, .int .i64 x3, .int .i64 x4, .bool x5])
        | 9 => Any.val (.int .i64 q)
        | 10 => Any.val (.bool T)
        | 11 => Any.val (.bool (!T))
        | _ => Any.idle) (by kernel_rfl) (by kernel_rfl) (by kernel_rfl) ?_ ?_ ?_
      · intro i _
        match i with
        | 0 => exact Any.lasts_val _
        | 1 => exact Any.lasts_val _
        | 2 => exact Any.lasts_val _
        | 3 => exact Any.lasts_val _
        | 4 => exact Any.lasts_val _
        | 5 => exact Any.lasts_val _
        | 6 => exact Any.lasts_val _
        | 7 => exact Any.lasts_val _
        | 8 => exact Any.lasts_val _
        | 9 => exact Any.lasts_val _
        | 10 => exact Any.lasts_val _
        | 11 => exact Any.lasts_val _
        | n + 12 => exact Any.lasts_idle
      · refine ⟨?_, ?_, ?_, ?_, ?_, ?_, ?_, ?_, ?_, ?_, ?_, ?_, trivial⟩
        · refine Any.owes_plain rfl fun ρ wo hs' hb hc' => ?_
          have h4 : ρ (.tmp 4) = .func (.func 27) #[] #[] := hs'.old' 4 (by kernel_rfl)
          exact Any.ok_move (Any.post_val hb rfl h4)
        · refine Any.owes_plain rfl fun ρ wo hs' hb hc' => ?_
          have h0 : ρ (.tmp 0) = .slice (some ⟨g, 0, none⟩) L cap := hs'.old' 0 (by kernel_rfl)
          exact Any.ok_move (Any.post_val hb rfl h0)
        · refine Any.owes_plain rfl fun ρ wo hs' hb hc' => ?_
          have h2 : ρ (.tmp 2) = .int .i64 ((m : Nat) : Int) := hs'.old' 2 (by kernel_rfl)
          exact Any.ok_move (Any.post_val hb rfl h2)
        · refine Any.owes_plain rfl fun ρ wo hs' hb hc' => ?_
          have h93 : ρ (.tmp 93) = .slice (some ⟨g, 0, none⟩) L cap := hs'.new' 93 1 (by kernel_rfl)
          have h94 : ρ (.tmp 94) = .int .i64 ((m : Nat) : Int) := hs'.new' 94 2 (by kernel_rfl)
          go_simp
          exact Any.post_val hb rfl rfl
        · refine Any.owes_plain rfl fun ρ wo hs' hb hc' => ?_
          have h95 : ρ (.tmp 95) = .pointer (some ⟨g, m * 6, none⟩) := hs'.new' 95 3 (by kernel_rfl)
          have hp := HPY.out wo ((below_undrew hb).block g HGL.out)
          have c0 := hp.1
          have c1 := hp.2.1
          have c2 := hp.2.2.1
          have c3 := hp.2.2.2.1
          have c4 := hp.2.2.2.2.1
          have c5 := hp.2.2.2.2.2
          go_simp
          exact Any.post_val hb rfl rfl
        · refine Any.owes_plain rfl fun ρ wo hs' hb hc' => ?_
          have h0 : ρ (.tmp 0) = .slice (some ⟨g, 0, none⟩) L cap := hs'.old' 0 (by kernel_rfl)
          exact Any.ok_move (Any.post_val hb rfl h0)
        · refine Any.owes_plain rfl fun ρ wo hs' hb hc' => ?_
          have h16 : ρ (.tmp 16) = .int .i64 ((h : Nat) : Int) := hs'.old' 16 (by kernel_rfl)
          exact Any.ok_move (Any.post_val hb rfl h16)
        · refine Any.owes_plain rfl fun ρ wo hs' hb hc' => ?_
          have h97 : ρ (.tmp 97) = .slice (some ⟨g, 0, none⟩) L cap := hs'.new' 97 5 (by kernel_rfl)
          have h98 : ρ (.tmp 98) = .int .i64 ((h : Nat) : Int) := hs'.new' 98 6 (by kernel_rfl)
          go_simp
          exact Any.post_val hb rfl rfl
        · refine Any.owes_plain rfl fun ρ wo hs' hb hc' => ?_
          have h99 : ρ (.tmp 99) = .pointer (some ⟨g, h * 6, none⟩) := hs'.new' 99 7 (by kernel_rfl)
          have hp := HPX.out wo ((below_undrew hb).block g HGL.out)
          have c0 := hp.1
          have c1 := hp.2.1
          have c2 := hp.2.2.1
          have c3 := hp.2.2.2.1
          have c4 := hp.2.2.2.2.1
          have c5 := hp.2.2.2.2.2
          go_simp
          exact Any.post_val hb rfl rfl
        · refine Any.owes_plain rfl fun ρ wo hs' hb hc' => ?_
          have h92 : ρ (.tmp 92) = .func (.func 27) #[] #[] := hs'.new' 92 0 (by kernel_rfl)
          have h96 : ρ (.tmp 96) = .agg #[.string y0, .string y1, .string y2, .int .i64 y3, .int .i64 y4, .bool y5] := hs'.new' 96 4 (by kernel_rfl)
          have h100 : ρ (.tmp 100) = .agg #[.string x0, .string x1, .string x2, .int .i64 x3, .int .i64 x4, .bool x5] := hs'.new' 100 8 (by kernel_rfl)
          go_simp
          exact (HBF.out wo).mono fun e w' ⟨he, hb'⟩ => ⟨_, he, Any.post_vals hb rfl rfl hb'⟩
        · refine Any.owes_plain rfl fun ρ wo hs' hb hc' => ?_
          have h101 : ρ (.tmp 101) = .int .i64 q := hs'.new' 101 9 (by kernel_rfl)
          go_simp
          exact Any.post_val hb rfl rfl
        · refine Any.owes_plain rfl fun ρ wo hs' hb hc' => ?_
          have h102 : ρ (.tmp 102) = .bool T := hs'.new' 102 10 (by kernel_rfl)
          go_simp
          exact Any.post_val hb rfl rfl
      intro vals w5 hb hk ha
      have hT : vals 11 = .bool (!T) := hk 11 (by kernel_rfl)
      have HBC := Lib.hid hb
      clear hk ha hb
      simp only [Any.putAll]
      go_frame
      simp only [Nat.zero_add, Nat.reduceAdd]
      rw [hT]
      clear hT
      have HG5 := Lib.hid (below_grown HG.out HBC.out)
      have HO5 := Lib.hid (ownsRow_below HO.out HBC.out)
      cases T
      · have HNF := Lib.hid (HNF.out rfl)
        go_wp2_with fail
        go_roundw
        case rel => exact ⟨h + 1, j, by have := HIH.out; have := HJB.out; omega, by have := HIH.out; omega, HJB.out.2, by go_num, rfl, HNF.out, HI.out.2, HO5.out, HG5.out⟩
        case measure => have := HIH.out; (simp [intOf]) <;> omega
      · have HNT := Lib.hid (HNT.out rfl)
        go_wp2_with fail
        go_roundw
        case rel => exact ⟨i, h, HJB.out.1, HIH.out.1, by have := HIH.out; have := HJB.out; omega, rfl, rfl, HI.out.1, HNT.out, HO5.out, HG5.out⟩
        case measure => have := HIH.out; (simp [intOf]) <;> omega
    · have hki : ¬ ((i : Nat) : Int) < (j : Int) := by omega
      obtain rfl : i = j := by omega
      have hic : i - a ≤ A.length := by have := HLL.out; omega
      have HMG : Hid (mg A [y] = A.take (i - a) ++ [y] ++ A.drop (i - a)) := Lib.hid (mg_right hic (fun t ht h1 => hlo t ht (by omega)) (fun t ht h1 => hhi t ht (by omega)))
      have HIB := Lib.hid (And.intro hmi hjb)
      clear hown hgr hlo hhi hij hic hlt
      go_wp2_with fail
      go_loopw [17] (fun kv wr => ∃ k : Nat, i ≤ k ∧ k ≤ m ∧ kv = .int .i64 (k : Nat) ∧ wr.ownsRow B 37 6 (.slice (some ⟨g, 0, none⟩) L cap) L (pgCells (P ++ A.take (k - a) ++ [y] ++ A.drop (k - a) ++ Q)) ∧ w.grownBy wr (some g)) (fun k _ => (intOf k).toNat - i)
      case atStart => exact ⟨m, HIB.out.2, Nat.le_refl _, rfl, by
        have h1 := HLL.out
        rw [show m - a = A.length by omega, List.take_length, List.drop_length]
        have := HO.out
        rw [HD.out] at this
        simpa using this, HG.out⟩
      case round =>
        obtain ⟨k, hik, hkm, rfl, hown, hgr⟩ := hrel
        have HG := Lib.hid hgr
        have HO := Lib.hid hown
        by_cases hlt : i < k
        · have hki : ((i : Nat) : Int) < (k : Int) := by omega
          have HKL := Lib.hid (And.intro hkm hlt)
          obtain ⟨k1, hk1⟩ : ∃ k1, k1 = k - 1 := ⟨_, rfl⟩
          have EWK : Hid (IntKind.i64.wrap ((k : Int) - 1) = ((k1 : Nat) : Int)) := Lib.hid (by rw [IntKind.wrap_i64]; have := HIB.out; omega)
          obtain ⟨c, hc⟩ : ∃ c, c = k1 - a := ⟨_, rfl⟩
          have hka : k - a = c + 1 := by have := HIB.out; omega
          have hcl : c < A.length := by have := HIB.out; have := HLL.out; omega
          have hEs : P ++ A.take (k - a) ++ [y] ++ A.drop (k - a) ++ Q = (P ++ A.take c) ++ A[c] :: y :: (A.drop (c + 1) ++ Q) := by rw [hka, List.take_succ_eq_append_getElem hcl]; simp only [List.append_assoc, List.cons_append, List.nil_append]
          have hUl : (P ++ A.take c).length = k1 := by have := HLL.out; have := HIB.out; simp; omega
          have hkk : k = k1 + 1 := by omega
          have HSL : Hid (pgCells (P ++ A.take (k - 1 - a) ++ [y] ++ A.drop (k - 1 - a) ++ Q) = pgCells (swL (P ++ A.take (k - a) ++ [y] ++ A.drop (k - a) ++ Q) k k1)) := Lib.hid (by
            have h1 := swL_at2 (P := P ++ A.take c) (Q := A.drop (c + 1) ++ Q) (x := A[c]) (y := y) hUl hkk
            rw [hEs, h1, show k - 1 - a = c by omega, List.drop_eq_getElem_cons hcl]
            simp only [List.append_assoc, List.cons_append, List.nil_append])
          have hkl : k < (P ++ A.take (k - a) ++ [y] ++ A.drop (k - a) ++ Q).length := by rw [hEs]; simp at hUl ⊢; omega
          have hEl : (P ++ A.take (k - a) ++ [y] ++ A.drop (k - a) ++ Q).length = L := by have := hown.1; rw [pgCells_ln] at this; omega
          generalize P ++ A.take (k - a) ++ [y] ++ A.drop (k - a) ++ Q = E at *
          have hx := at_pos hEs hUl (by omega)
          have hy := at_pos (E := E) (U := P ++ A.take c ++ [A[c]]) (x := y) (V := A.drop (c + 1) ++ Q) (q := k) (by rw [hEs]; simp only [List.append_assoc, List.cons_append, List.nil_append]) (by simp at hUl ⊢; omega) hkl
          have HPX := Lib.hid (own_pgAt hown (q := k1) (by omega))
          have HPY := Lib.hid (own_pgAt hown (q := k) (by omega))
          have HST := Lib.hid (sw_sets (B := B) (g := g) (cap := cap) (n := L) (E := E) (i := k) (j := k1) (by omega) (by omega))
          rw [hx] at HPX
          rw [hy] at HPY
          rw [hx, hy] at HST
          generalize A[c] = x at *
          generalize E.set k x = E1 at *
          generalize swL E k k1 = E2 at *
          clear hx hy hEs
          obtain ⟨x0, x1, x2, x3, x4, x5⟩ := x
          obtain ⟨y0, y1, y2, y3, y4, y5⟩ := y
          simp only [Pg.cells, PgAt] at HPX HPY HST
          have hkz : (k : Int) < (L : Int) := by omega
          have hk1z : (k1 : Int) < (L : Int) := by omega
          have hk10 : (1 : Int) ≤ (k : Int) := by omega
          clear hown hgr hkl hEl hUl hk1 hcl hlt hik hkm hka hkk hc
          go_wp2_with fail
          refine Ord.region_lit (fun
            | 0 => Ord.val (.slice (some ⟨g, 0, none⟩) L cap)
            | 1 => Ord.val (.int .i64 ((k : Nat) : Int))
            | 2 => Ord.val (.slice (some ⟨g, 0, none⟩) L cap)
            | 3 => Ord.val (.int .i64 ((k : Nat) : Int))
            | 4 => Ord.val (.int .i64 ((k1 : Nat) : Int))
            | 5 => Ord.val (.slice (some ⟨g, 0, none⟩) L cap)
            | 6 => Ord.val (.int .i64 ((k : Nat) : Int))
            | 7 => Ord.val (.int .i64 ((k1 : Nat) : Int))
            | 8 => Ord.val (.pointer (some ⟨g, k1 * 6, none⟩))
            | 9 => Ord.val (.agg #[.string x0, .string x1, .string x2, .int .i64 x3, .int .i64 x4, .bool x5])
            | 10 => Ord.val (.slice (some ⟨g, 0, none⟩) L cap)
            | 11 => Ord.val (.int .i64 ((k : Nat) : Int))
            | 12 => Ord.val (.pointer (some ⟨g, k * 6, none⟩))
            | 13 => Ord.val (.agg #[.string y0, .string y1, .string y2, .int .i64 y3, .int .i64 y4, .bool y5])
            | 14 => Ord.val (.pointer (some ⟨g, k * 6, none⟩))
            | 15 => Ord.cutrow B 37 6 L (pgCells E1) (.slice (some ⟨g, 0, none⟩) L cap)
            | 16 => Ord.val (.pointer (some ⟨g, k1 * 6, none⟩))
            | 17 => Ord.cutrow2 B 37 6 L (pgCells E2) (.slice (some ⟨g, 0, none⟩) L cap) 15
            | _ => Ord.idle) (fun b => (.slice (some ⟨g, 0, none⟩) L cap : Value).ownBlock = some b) (by kernel_rfl) (by kernel_rfl) (by kernel_rfl) ?_ ?_ ?_ ?_
          · intro i _
            match i with
            | 0 => exact Ord.lasts_val _
            | 1 => exact Ord.lasts_val _
            | 2 => exact Ord.lasts_val _
            | 3 => exact Ord.lasts_val _
            | 4 => exact Ord.lasts_val _
            | 5 => exact Ord.lasts_val _
            | 6 => exact Ord.lasts_val _
            | 7 => exact Ord.lasts_val _
            | 8 => exact Ord.lasts_val _
            | 9 => exact Ord.lasts_val _
            | 10 => exact Ord.lasts_val _
            | 11 => exact Ord.lasts_val _
            | 12 => exact Ord.lasts_val _
            | 13 => exact Ord.lasts_val _
            | 14 => exact Ord.lasts_val _
            | 15 => exact Ord.lasts_cutrow _ _ _ _ _ _
            | 16 => exact Ord.lasts_val _
            | 17 => exact Ord.lasts_cutrow2 _ _ _ _ _ _ _
            | n + 18 => exact Ord.lasts_idle
          · refine ⟨fun k b _ hh => ?_, fun k b _ hh => ?_, fun k k' b _ _ hne h1 h2 => ?_⟩
            · match k, hh with
              | 0, hh => exact hh.elim
              | 1, hh => exact hh.elim
              | 2, hh => exact hh.elim
              | 3, hh => exact hh.elim
              | 4, hh => exact hh.elim
              | 5, hh => exact hh.elim
              | 6, hh => exact hh.elim
              | 7, hh => exact hh.elim
              | 8, hh => exact hh.elim
              | 9, hh => exact hh.elim
              | 10, hh => exact hh.elim
              | 11, hh => exact hh.elim
              | 12, hh => exact hh.elim
              | 13, hh => exact hh.elim
              | 14, hh => exact hh.elim
              | 15, hh => exact hh
              | 16, hh => exact hh.elim
              | 17, hh => exact hh.elim
              | m + 18, hh => exact hh.elim
            · match k, hh with
              | 0, hh => exact hh.elim
              | 1, hh => exact hh.elim
              | 2, hh => exact hh.elim
              | 3, hh => exact hh.elim
              | 4, hh => exact hh.elim
              | 5, hh => exact hh.elim
              | 6, hh => exact hh.elim
              | 7, hh => exact hh.elim
              | 8, hh => exact hh.elim
              | 9, hh => exact hh.elim
              | 10, hh => exact hh.elim
              | 11, hh => exact hh.elim
              | 12, hh => exact hh.elim
              | 13, hh => exact hh.elim
              | 14, hh => exact hh.elim
              | 15, hh => exact (HO.out.lt _ hh).2
              | 16, hh => exact hh.elim
              | 17, hh => exact hh.elim
              | m + 18, hh => exact hh.elim
            · have a : (k = 15 ∧ (fun b => (.slice (some ⟨g, 0, none⟩) L cap : Value).ownBlock = some b) b) := by
                match k, h1 with
                | 0, hh => exact hh.elim
                | 1, hh => exact hh.elim
                | 2, hh => exact hh.elim
                | 3, hh => exact hh.elim
                | 4, hh => exact hh.elim
                | 5, hh => exact hh.elim
                | 6, hh => exact hh.elim
                | 7, hh => exact hh.elim
                | 8, hh => exact hh.elim
                | 9, hh => exact hh.elim
                | 10, hh => exact hh.elim
                | 11, hh => exact hh.elim
                | 12, hh => exact hh.elim
                | 13, hh => exact hh.elim
                | 14, hh => exact hh.elim
                | 15, hh => exact ⟨rfl, hh⟩
                | 16, hh => exact hh.elim
                | 17, hh => exact hh.elim
                | m + 18, hh => exact hh.elim
              have a' : (k' = 15 ∧ (fun b => (.slice (some ⟨g, 0, none⟩) L cap : Value).ownBlock = some b) b) := by
                match k', h2 with
                | 0, hh => exact hh.elim
                | 1, hh => exact hh.elim
                | 2, hh => exact hh.elim
                | 3, hh => exact hh.elim
                | 4, hh => exact hh.elim
                | 5, hh => exact hh.elim
                | 6, hh => exact hh.elim
                | 7, hh => exact hh.elim
                | 8, hh => exact hh.elim
                | 9, hh => exact hh.elim
                | 10, hh => exact hh.elim
                | 11, hh => exact hh.elim
                | 12, hh => exact hh.elim
                | 13, hh => exact hh.elim
                | 14, hh => exact hh.elim
                | 15, hh => exact ⟨rfl, hh⟩
                | 16, hh => exact hh.elim
                | 17, hh => exact hh.elim
                | m + 18, hh => exact hh.elim
              rcases a with ⟨rfl, a⟩ <;> rcases a' with ⟨rfl, a'⟩
              all_goals first | exact absurd rfl hne | (exact hne rfl)
          · refine ⟨?_, ?_, ?_, ?_, ?_, ?_, ?_, ?_, ?_, ?_, ?_, ?_, ?_, ?_, ?_, ?_, ?_, ?_, trivial⟩
            · refine Ord.owes_plain rfl fun ρ Os wo hs' hb hc' => ?_
              have h0 : ρ (.tmp 0) = .slice (some ⟨g, 0, none⟩) L cap := hs'.old' 0 (by kernel_rfl)
              exact Any.ok_move (Ord.post_val rfl h0)
            · refine Ord.owes_plain rfl fun ρ Os wo hs' hb hc' => ?_
              have h17 : ρ (.tmp 17) = .int .i64 ((k : Nat) : Int) := hs'.old' 17 (by kernel_rfl)
              exact Any.ok_move (Ord.post_val rfl h17)
            · refine Ord.owes_plain rfl fun ρ Os wo hs' hb hc' => ?_
              have h0 : ρ (.tmp 0) = .slice (some ⟨g, 0, none⟩) L cap := hs'.old' 0 (by kernel_rfl)
              exact Any.ok_move (Ord.post_val rfl h0)
            · refine Ord.owes_plain rfl fun ρ Os wo hs' hb hc' => ?_
              have h17 : ρ (.tmp 17) = .int .i64 ((k : Nat) : Int) := hs'.old' 17 (by kernel_rfl)
              exact Any.ok_move (Ord.post_val rfl h17)
            · refine Ord.owes_plain rfl fun ρ Os wo hs' hb hc' => ?_
              have h116 : ρ (.tmp 116) = .int .i64 ((k : Nat) : Int) := hs'.val' 116 3 (by kernel_rfl) rfl
              have ew := EWK.out
              go_simp
              exact Ord.post_val rfl rfl
            · refine Ord.owes_plain rfl fun ρ Os wo hs' hb hc' => ?_
              have h0 : ρ (.tmp 0) = .slice (some ⟨g, 0, none⟩) L cap := hs'.old' 0 (by kernel_rfl)
              exact Any.ok_move (Ord.post_val rfl h0)
            · refine Ord.owes_plain rfl fun ρ Os wo hs' hb hc' => ?_
              have h17 : ρ (.tmp 17) = .int .i64 ((k : Nat) : Int) := hs'.old' 17 (by kernel_rfl)
              exact Any.ok_move (Ord.post_val rfl h17)
            · refine Ord.owes_plain rfl fun ρ Os wo hs' hb hc' => ?_
              have h119 : ρ (.tmp 119) = .int .i64 ((k : Nat) : Int) := hs'.val' 119 6 (by kernel_rfl) rfl
              have ew := EWK.out
              go_simp
              exact Ord.post_val rfl rfl
            · refine Ord.owes_plain rfl fun ρ Os wo hs' hb hc' => ?_
              have h118 : ρ (.tmp 118) = .slice (some ⟨g, 0, none⟩) L cap := hs'.val' 118 5 (by kernel_rfl) rfl
              have h120 : ρ (.tmp 120) = .int .i64 ((k1 : Nat) : Int) := hs'.val' 120 7 (by kernel_rfl) rfl
              go_simp
              exact Ord.post_val rfl rfl
            · refine Ord.owes_plain rfl fun ρ Os wo hs' hb hc' => ?_
              have h121 : ρ (.tmp 121) = .pointer (some ⟨g, k1 * 6, none⟩) := hs'.val' 121 8 (by kernel_rfl) rfl
              have hp := HPX.out wo (hs'.early' 15 (by kernel_rfl) g rfl)
              have c0 := hp.1
              have c1 := hp.2.1
              have c2 := hp.2.2.1
              have c3 := hp.2.2.2.1
              have c4 := hp.2.2.2.2.1
              have c5 := hp.2.2.2.2.2
              go_simp
              exact Ord.post_val rfl rfl
            · refine Ord.owes_plain rfl fun ρ Os wo hs' hb hc' => ?_
              have h0 : ρ (.tmp 0) = .slice (some ⟨g, 0, none⟩) L cap := hs'.old' 0 (by kernel_rfl)
              exact Any.ok_move (Ord.post_val rfl h0)
            · refine Ord.owes_plain rfl fun ρ Os wo hs' hb hc' => ?_
              have h17 : ρ (.tmp 17) = .int .i64 ((k : Nat) : Int) := hs'.old' 17 (by kernel_rfl)
              exact Any.ok_move (Ord.post_val rfl h17)
            · refine Ord.owes_plain rfl fun ρ Os wo hs' hb hc' => ?_
              have h123 : ρ (.tmp 123) = .slice (some ⟨g, 0, none⟩) L cap := hs'.val' 123 10 (by kernel_rfl) rfl
              have h124 : ρ (.tmp 124) = .int .i64 ((k : Nat) : Int) := hs'.val' 124 11 (by kernel_rfl) rfl
              go_simp
              exact Ord.post_val rfl rfl
            · refine Ord.owes_plain rfl fun ρ Os wo hs' hb hc' => ?_
              have h125 : ρ (.tmp 125) = .pointer (some ⟨g, k * 6, none⟩) := hs'.val' 125 12 (by kernel_rfl) rfl
              have hp := HPY.out wo (hs'.early' 15 (by kernel_rfl) g rfl)
              have c0 := hp.1
              have c1 := hp.2.1
              have c2 := hp.2.2.1
              have c3 := hp.2.2.2.1
              have c4 := hp.2.2.2.2.1
              have c5 := hp.2.2.2.2.2
              go_simp
              exact Ord.post_val rfl rfl
            · refine Ord.owes_plain rfl fun ρ Os wo hs' hb hc' => ?_
              have h113 : ρ (.tmp 113) = .slice (some ⟨g, 0, none⟩) L cap := hs'.val' 113 0 (by kernel_rfl) rfl
              have h114 : ρ (.tmp 114) = .int .i64 ((k : Nat) : Int) := hs'.val' 114 1 (by kernel_rfl) rfl
              go_simp
              exact Ord.post_val rfl rfl
            · refine Ord.owes_plain rfl fun ρ Os wo hs' hb hc' => ?_
              have h127 : ρ (.tmp 127) = .pointer (some ⟨g, k * 6, none⟩) := hs'.val' 127 14 (by kernel_rfl) rfl
              have h122 : ρ (.tmp 122) = .agg #[.string x0, .string x1, .string x2, .int .i64 x3, .int .i64 x4, .bool x5] := hs'.val' 122 9 (by kernel_rfl) rfl
              exact Ord.ok_cutrow h127 h122 HO.out (fun q hq => hs'.here q hq) HST.out.1 (by kernel_rfl) (by simp [Value.oneCell']) rfl
            · refine Ord.owes_plain rfl fun ρ Os wo hs' hb hc' => ?_
              have h115 : ρ (.tmp 115) = .slice (some ⟨g, 0, none⟩) L cap := hs'.val' 115 2 (by kernel_rfl) rfl
              have h117 : ρ (.tmp 117) = .int .i64 ((k1 : Nat) : Int) := hs'.val' 117 4 (by kernel_rfl) rfl
              go_simp
              exact Ord.post_val rfl rfl
            · refine Ord.owes_plain rfl fun ρ Os wo hs' hb hc' => ?_
              have h128 : ρ (.tmp 128) = .pointer (some ⟨g, k1 * 6, none⟩) := hs'.val' 128 16 (by kernel_rfl) rfl
              have h126 : ρ (.tmp 126) = .agg #[.string y0, .string y1, .string y2, .int .i64 y3, .int .i64 y4, .bool y5] := hs'.val' 126 13 (by kernel_rfl) rfl
              exact Ord.ok_cutrow2 h128 h126 (hs'.stood' 15 (by kernel_rfl)) HST.out.2 (by kernel_rfl) (by simp [Value.oneCell']) rfl
          intro vals Os ρs w9 hk hkn hln hap hbd
          obtain ⟨k1, -⟩ := hkn 17 (by kernel_rfl)
          have HK9 := Lib.hid hk
          have HO9 := Lib.hid k1
          clear hkn hln hap hbd hk k1
          simp only [Any.putAll]
          go_frame
          go_wp2_with fail
          go_roundw
          case rel => exact ⟨k - 1, by have := HKL.out; omega, by have := HKL.out; omega, by have := HKL.out; go_num, by rw [HSL.out]; exact HO9.out, grown_then HG.out ⟨HK9.out.os, HK9.out.tape, HK9.out.output, HK9.out.size, fun q hq hn => HK9.out.block q hq (fun e => hn e.symm)⟩⟩
          case measure => have := HKL.out; (simp [intOf]) <;> omega
        · have hki : ¬ ((i : Nat) : Int) < (k : Int) := by omega
          obtain rfl : i = k := by omega
          clear hown hgr hlt hik hkm
          go_wp2_with fail
          go_end0
          refine ⟨rfl, ?_, HG.out⟩
          have h1 := HO.out
          have h2 : R = P ++ A.take (i - a) ++ [y] ++ A.drop (i - a) ++ Q := by rw [HR.out, HMG.out]; simp only [List.append_assoc, List.cons_append, List.nil_append]
          have h3 : R.length = L := by have := h1.1; rw [pgCells_ln] at this; rw [h2]; omega
          rw [h3, h2]
          exact h1
end Go.Proofs.Ytnlfhncbnfmccaa.Sc
namespace Go.Proofs.Ytnlfhncbnfmccaa.Sc
open Go Go.RowKit Go.ChangeShapes Go.WideShapes Go.ChangeAt Go.Sort Go.Shelf
set_option maxRecDepth 100000

theorem cross_lo {A C : List Pg} (hsA : Asc A) (hsC : Asc C) {u v : Nat} (hu : u < A.length) (hv : v < C.length) (h : less C[v] A[u] = false) : ∀ x ∈ A.take (u + 1), ∀ y ∈ C.drop v, less y x = false := by
  intro x hx y hy
  obtain ⟨i, hi, rfl⟩ := List.getElem_of_mem hx
  obtain ⟨j, hj, rfl⟩ := List.getElem_of_mem hy
  rw [List.length_take] at hi
  rw [List.length_drop] at hj
  rw [List.getElem_take, List.getElem_drop]
  exact asc_hi2 hsA hu (asc_hi hsC hv h (v + j) (by omega) (by omega)) i (by omega) (by omega)
theorem cross_hi {A C : List Pg} (hsA : Asc A) (hsC : Asc C) {u v : Nat} (hu : u < A.length) (hv : v < C.length) (h : less C[v] A[u] = true) : ∀ x ∈ A.drop u, ∀ y ∈ C.take (v + 1), less y x = true := by
  intro x hx y hy
  obtain ⟨i, hi, rfl⟩ := List.getElem_of_mem hx
  obtain ⟨j, hj, rfl⟩ := List.getElem_of_mem hy
  rw [List.length_take] at hj
  rw [List.length_drop] at hi
  rw [List.getElem_take, List.getElem_drop]
  exact asc_lo2 hsA hu (asc_lo hsC hv h j (by omega) (by omega)) (u + i) (by omega) (by omega)
def SortL (w : World) (B L : Nat) (v : Value) (D : List Pg) (e : Ending) (w' : World) : Prop := e = .returned (.tuple #[]) ∧ w'.ownsRow B 37 6 v L (pgCells D) ∧ w.grownBy w' v.ownBlock
theorem sortL_of {w w' : World} {B L : Nat} {v : Value} {D : List Pg} {e : Ending} (h : SortP w B v D e w') (hl : D.length = L) : SortL w B L v D e w' := by subst hl; exact h
theorem mg_or {A C : List Pg} (h : A = [] ∨ C = []) : mg A C = A ++ C := by
  rcases h with rfl | rfl
  · rw [mg_nil]; rfl
  · rw [mg_nil2, List.append_nil]
set_option maxHeartbeats 16000000 in
theorem sym_any (g cap B L : Nat) (hl : L ≤ 1000000) (N : Nat) : ∀ (P A C Q : List Pg) (_ : A.length + C.length ≤ N) (_ : 0 < A.length) (_ : 0 < C.length) (_ : Asc A) (_ : Asc C) (a m b : Nat) (w : World) (_ : (P ++ A ++ C ++ Q).length = L) (_ : P.length = a) (_ : a + A.length = m) (_ : m + C.length = b)
    (_ : w.ownsRow B 37 6 (.slice (some ⟨g, 0, none⟩) L cap) L (pgCells (P ++ A ++ C ++ Q))),
    Calls Try.prog 57 #[.slice (some ⟨g, 0, none⟩) L cap, .int .i64 a, .int .i64 m, .int .i64 b, .func (.func 27) #[] #[]] w (SortP w B (.slice (some ⟨g, 0, none⟩) L cap) (P ++ mg A C ++ Q)) := by
  induction N with
  | zero => exact fun P A C Q h hA => absurd h (by omega)
  | succ N ih =>
  intro P A C Q hN hA hC hsA hsC a m b w hL ha hm hb hw
  by_cases hA1 : A.length = 1
  · obtain ⟨x, rfl⟩ := List.length_eq_one_iff.1 hA1
    exact symL_any P C Q x hC hsC g cap B L a m b w hL ha hm hb hw hl
  by_cases hC1 : C.length = 1
  · obtain ⟨y, rfl⟩ := List.length_eq_one_iff.1 hC1
    exact symR_any P A Q y (by omega) hsA g cap B L a m b w hL ha hm hb hw hl
  obtain ⟨D, hD⟩ : ∃ D, D = P ++ A ++ C ++ Q := ⟨_, rfl⟩
  obtain ⟨R, hR⟩ : ∃ R, R = P ++ mg A C ++ Q := ⟨_, rfl⟩
  have HR := Lib.hid hR
  rw [← hR]
  clear hR
  have HDX : Hid (∀ t (h : t < A.length) (h2 : a + t < D.length), D[a + t] = A[t]) := Lib.hid (fun t h h2 => by
    subst hD
    rw [List.getElem_append_left (by simp; omega), List.getElem_append_left (by simp; omega), List.getElem_append_right (by omega)]
    congr 1
    omega)
  have HDY : Hid (∀ t (h : t < C.length) (h2 : m + t < D.length), D[m + t] = C[t]) := Lib.hid (fun t h h2 => by
    subst hD
    rw [List.getElem_append_left (by simp; omega), List.getElem_append_right (by simp; omega)]
    congr 1
    simp
    omega)
  rw [← hD] at hw hL
  have HD := Lib.hid hD
  have HGL : Hid (g < w.heap.size) := Lib.hid (own_holdsP (d := D.toArray) hw).2
  have HW := Lib.hid hw
  have HLL := Lib.hid (And.intro hL (And.intro ha (And.intro hm (And.intro hb (And.intro hA1 (And.intro hC1 (And.intro hA (And.intro hC hN))))))))
  have HSA := Lib.hid hsA
  have HSC := Lib.hid hsC
  have HIH := Lib.hid ih
  have hbl : b ≤ L := by rw [← hL, hD]; simp; omega
  have hml : m ≤ b := by omega
  have hal : a ≤ m := by omega
  have e1 : (m : Int) - (a : Int) = (A.length : Int) := by omega
  have t1 : (((A.length : Nat) : Int) == 1) = false := by simp; omega
  have e2 : (b : Int) - (m : Int) = (C.length : Int) := by omega
  have t2 : (((C.length : Nat) : Int) == 1) = false := by simp; omega
  obtain ⟨mid, hmid⟩ : ∃ mid, mid = (a + b) / 2 := ⟨_, rfl⟩
  have e3 : ((a : Int) + (b : Int)) / 2 = ((mid : Nat) : Int) := by omega
  obtain ⟨n, hn⟩ : ∃ n, n = mid + m := ⟨_, rfl⟩
  have e4 : (mid : Int) + (m : Int) = ((n : Nat) : Int) := by omega
  have hmb : mid ≤ b := by omega
  obtain ⟨st0, r0, hst⟩ : ∃ st0 r0, (mid < m ∧ st0 + b = n ∧ r0 = mid) ∨ (m ≤ mid ∧ st0 = a ∧ r0 = m) := by
    by_cases h : mid < m
    · exact ⟨n - b, mid, .inl ⟨h, by omega, rfl⟩⟩
    · exact ⟨a, m, .inr ⟨by omega, rfl, rfl⟩⟩
  have HST := Lib.hid hst
  obtain ⟨p, hp⟩ : ∃ p, p = n - 1 := ⟨_, rfl⟩
  have e5 : (n : Int) - 1 = ((p : Nat) : Int) := by omega
  have hnl : n ≤ 2000000 := by omega
  have hsr : st0 ≤ r0 := by omega
  have hrm : r0 ≤ mid ∧ r0 ≤ m ∧ a ≤ st0 := by omega
  have HMN := Lib.hid (And.intro hmid (And.intro hn (And.intro hp (And.intro hsr (And.intro hrm hal)))))
  clear hw hL ha hm hb hA hC hsA hsC hD hA1 hC1 hN ih hmid hn hp hsr hrm
  have HCS : Hid ((decide ((mid : Int) < (m : Int)) = true ∧ decide (mid < m) = true ∧ (n : Int) - (b : Int) = ((st0 : Nat) : Int) ∧ Hid ((mid : Int) = (r0 : Int)) ∧ decide ((m : Int) > (mid : Int)) = true ∧ (mid : Int) < (m : Int)) ∨ (decide ((mid : Int) < (m : Int)) = false ∧ decide (mid < m) = false ∧ (a : Int) = (st0 : Int) ∧ Hid ((m : Int) = (r0 : Int)) ∧ decide ((m : Int) > (mid : Int)) = false ∧ ¬ (mid : Int) < (m : Int))) := Lib.hid (by
    rcases hst with ⟨h1, h2, h3⟩ | ⟨h1, h2, h3⟩
    · exact .inl ⟨decide_eq_true (by omega), decide_eq_true h1, by omega, Lib.hid (by omega), decide_eq_true (by omega), by omega⟩
    · exact .inr ⟨decide_eq_false (by omega), decide_eq_false (by omega), by omega, Lib.hid (by omega), decide_eq_false (by omega), by omega⟩)
  clear hst
  go_enter Try.func57, Try.ntmps57
  go_upto_if 140 with fail
  go_cut [20, 21] from 138 (fun s r wx => s = .int .i64 (st0 : Nat) ∧ r = .int .i64 (r0 : Nat) ∧ w = wx)
  case first =>
    rcases HCS.out with ⟨-, -, e6, HRQ, -, h6⟩ | ⟨-, -, e6, HRQ, -, h6⟩
    · go_wp2_with fail
      go_meet
      exact ⟨rfl, by rw [← HRQ.out], rfl⟩
    · have HE6 := Lib.hid e6
      clear e6
      go_wp2_with fail
      go_meet
      exact ⟨by rw [← HE6.out], by rw [← HRQ.out], rfl⟩
  obtain ⟨rfl, rfl, rfl⟩ := hcut
  go_wp2_with fail
  clear e1 e2 t1 t2 e3 e4 e5
  go_loopw [20, 21, 23] (fun sv rv _ wr => ∃ s r : Nat, st0 ≤ s ∧ s ≤ r ∧ r ≤ r0 ∧ sv = .int .i64 (s : Nat) ∧ rv = .int .i64 (r : Nat) ∧ (st0 < s → ∀ u v (hu : u < A.length) (hv : v < C.length), u + a + 1 = s → v + m + s = n → less C[v] A[u] = false) ∧ (r < r0 → ∀ u v (hu : u < A.length) (hv : v < C.length), u + a = r → v + m + r + 1 = n → less C[v] A[u] = true) ∧ wr.ownsRow B 37 6 (.slice (some ⟨g, 0, none⟩) L cap) L (pgCells D) ∧ w.grownBy wr (some g)) (fun i j _ _ => (intOf j - intOf i).toNat)
  case atStart => exact ⟨st0, r0, Nat.le_refl _, HMN.out.2.2.2.1, Nat.le_refl _, rfl, rfl, fun h => absurd h (Nat.lt_irrefl _), fun h => absurd h (Nat.lt_irrefl _), HW.out, ⟨rfl, rfl, rfl, Nat.le_refl _, fun _ _ _ => rfl⟩⟩
  case round =>
    obtain ⟨s, r, hss, hsr, hrr, rfl, rfl, hlo, hhi, hown, hgr⟩ := hrel
    have HG := Lib.hid hgr
    have HO := Lib.hid hown
    have HI := Lib.hid (And.intro hlo hhi)
    by_cases hlt : s < r
    · have hki : ((s : Nat) : Int) < (r : Int) := by omega
      obtain ⟨c, hc⟩ : ∃ c, c = (s + r) / 2 := ⟨_, rfl⟩
      have eh : ((s : Int) + (r : Int)) / 2 = ((c : Nat) : Int) := by omega
      have hsc : s ≤ c := by omega
      have hcr : c < r := by omega
      have HIH2 := Lib.hid (And.intro hsc hcr)
      have hcA : c - a < A.length := by have := HLL.out; have := HMN.out; omega
      obtain ⟨pc, hpc⟩ : ∃ pc, pc = p - c := ⟨_, rfl⟩
      have hpm : m ≤ pc ∧ pc < b ∧ c ≤ p := by have := HLL.out; have := HMN.out; have := HST.out; omega
      have hpC : pc - m < C.length := by have := HLL.out; omega
      have hcl : (c : Int) < (L : Int) := by have := HLL.out; have := HMN.out; omega
      have hpl : (pc : Int) < (L : Int) := by omega
      have EWS : Hid (IntKind.i64.wrap ((p : Int) - (c : Int)) = ((pc : Nat) : Int)) := Lib.hid (by rw [IntKind.wrap_i64]; omega)
      have hDl : D.length = L := HLL.out.1
      have HPX := Lib.hid (own_pgAt hown (q := c) (by omega))
      have HPY := Lib.hid (own_pgAt hown (q := pc) (by omega))
      have hx : D[c]'(by omega) = A[c - a] := by
        have := HDX.out (c - a) hcA (by have := HMN.out; omega)
        simp only [show a + (c - a) = c by have := HMN.out; omega] at this
        exact this
      have hy : D[pc]'(by omega) = C[pc - m] := by
        have := HDY.out (pc - m) hpC (by omega)
        simp only [show m + (pc - m) = pc by omega] at this
        exact this
      rw [hx] at HPX
      rw [hy] at HPY
      have HBF := Lib.hid (beforeB C[pc - m] A[c - a])
      obtain ⟨T, hT⟩ : ∃ T, less C[pc - m] A[c - a] = T := ⟨_, rfl⟩
      have tq := cmp_less C[pc - m] A[c - a]
      rw [hT] at tq
      generalize cmpP C[pc - m] A[c - a] = q at *
      have HGL2 := Lib.hid (Nat.lt_of_lt_of_le HGL.out HG.out.size)
      have HGL := HGL2
      have HNF : Hid (T = false → ∀ u v (hu : u < A.length) (hv : v < C.length), u + a + 1 = c + 1 → v + m + (c + 1) = n → less C[v] A[u] = false) := Lib.hid (fun e u v hu hv h1 h2 => by
        obtain rfl : u = c - a := by have := HMN.out; omega
        obtain rfl : v = pc - m := by have := HMN.out; omega
        exact hT.trans e)
      have HNT : Hid (T = true → ∀ u v (hu : u < A.length) (hv : v < C.length), u + a = c → v + m + c + 1 = n → less C[v] A[u] = true) := Lib.hid (fun e u v hu hv h1 h2 => by
        obtain rfl : u = c - a := by have := HMN.out; omega
        obtain rfl : v = pc - m := by have := HMN.out; omega
        exact hT.trans e)
      generalize A[c - a] = x at *
      generalize C[pc - m] = y at *
      obtain ⟨x0, x1, x2, x3, x4, x5⟩ := x
      obtain ⟨y0, y1, y2, y3, y4, y5⟩ := y
      simp only [Pg.cells, PgAt] at HPX HPY HBF
      have HJB := Lib.hid (And.intro hss hrr)
      clear hx hy hT hown hgr hlo hhi hcA hpC hDl hc hsc hcr hpc hpm
      go_wp2_with fail
      clear eh
      refine Any.region_lit (fun
        | 0 => Any.val (.func (.func 27) #[] #[])
        | 1 => Any.val (.slice (some ⟨g, 0, none⟩) L cap)
        | 2 => Any.val (.int .i64 ((p : Nat) : Int))
        | 3 => Any.val (.int .i64 ((c : Nat) : Int))
        | 4 => Any.val (.int .i64 ((pc : Nat) : Int))
        | 5 => Any.val (.pointer (some ⟨g, pc * 6, none⟩))
        | 6 => Any.val (.agg #[.string y0, .string y1, .string y2, .int .i64 y3, .int .i64 y4, .bool y5])
        | 7 => Any.val (.slice (some ⟨g, 0, none⟩) L cap)
        | 8 => Any.val (.int .i64 ((c : Nat) : Int))
        | 9 => Any.val (.pointer (some ⟨g, c * 6, none⟩))
        | 10 => Any.val (.agg #[.string x0, .string x1, .string x2, .int .i64 x3, .int .i64 x4, .bool x5])
        | 11 => Any.val (.int .i64 q)
        | 12 => Any.val (.bool T)
        | 13 => Any.val (.bool (!T))
        | _ => Any.idle) (by kernel_rfl) (by kernel_rfl) (by kernel_rfl) ?_ ?_ ?_
      · intro i _
        match i with
        | 0 => exact Any.lasts_val _
        | 1 => exact Any.lasts_val _
        | 2 => exact Any.lasts_val _
        | 3 => exact Any.lasts_val _
        | 4 => exact Any.lasts_val _
        | 5 => exact Any.lasts_val _
        | 6 => exact Any.lasts_val _
        | 7 => exact Any.lasts_val _
        | 8 => exact Any.lasts_val _
        | 9 => exact Any.lasts_val _
        | 10 => exact Any.lasts_val _
        | 11 => exact Any.lasts_val _
        | 12 => exact Any.lasts_val _
        | 13 => exact Any.lasts_val _
        | n + 14 => exact Any.lasts_idle
      · refine ⟨?_, ?_, ?_, ?_, ?_, ?_, ?_, ?_, ?_, ?_, ?_, ?_, ?_, ?_, trivial⟩
        · refine Any.owes_plain rfl fun ρ wo hs' hb hc' => ?_
          have h4 : ρ (.tmp 4) = .func (.func 27) #[] #[] := hs'.old' 4 (by kernel_rfl)
          exact Any.ok_move (Any.post_val hb rfl h4)
        · refine Any.owes_plain rfl fun ρ wo hs' hb hc' => ?_
          have h0 : ρ (.tmp 0) = .slice (some ⟨g, 0, none⟩) L cap := hs'.old' 0 (by kernel_rfl)
          exact Any.ok_move (Any.post_val hb rfl h0)
        · refine Any.owes_plain rfl fun ρ wo hs' hb hc' => ?_
          have h22 : ρ (.tmp 22) = .int .i64 ((p : Nat) : Int) := hs'.old' 22 (by kernel_rfl)
          exact Any.ok_move (Any.post_val hb rfl h22)
        · refine Any.owes_plain rfl fun ρ wo hs' hb hc' => ?_
          have h23 : ρ (.tmp 23) = .int .i64 ((c : Nat) : Int) := hs'.old' 23 (by kernel_rfl)
          exact Any.ok_move (Any.post_val hb rfl h23)
        · refine Any.owes_plain rfl fun ρ wo hs' hb hc' => ?_
          have h160 : ρ (.tmp 160) = .int .i64 ((p : Nat) : Int) := hs'.new' 160 2 (by kernel_rfl)
          have h161 : ρ (.tmp 161) = .int .i64 ((c : Nat) : Int) := hs'.new' 161 3 (by kernel_rfl)
          have ew := EWS.out
          go_simp
          exact Any.post_val hb rfl rfl
        · refine Any.owes_plain rfl fun ρ wo hs' hb hc' => ?_
          have h159 : ρ (.tmp 159) = .slice (some ⟨g, 0, none⟩) L cap := hs'.new' 159 1 (by kernel_rfl)
          have h162 : ρ (.tmp 162) = .int .i64 ((pc : Nat) : Int) := hs'.new' 162 4 (by kernel_rfl)
          go_simp
          exact Any.post_val hb rfl rfl
        · refine Any.owes_plain rfl fun ρ wo hs' hb hc' => ?_
          have h163 : ρ (.tmp 163) = .pointer (some ⟨g, pc * 6, none⟩) := hs'.new' 163 5 (by kernel_rfl)
          have hp := HPY.out wo ((below_undrew hb).block g HGL.out)
          have c0 := hp.1
          have c1 := hp.2.1
          have c2 := hp.2.2.1
          have c3 := hp.2.2.2.1
          have c4 := hp.2.2.2.2.1
          have c5 := hp.2.2.2.2.2
          go_simp
          exact Any.post_val hb rfl rfl
        · refine Any.owes_plain rfl fun ρ wo hs' hb hc' => ?_
          have h0 : ρ (.tmp 0) = .slice (some ⟨g, 0, none⟩) L cap := hs'.old' 0 (by kernel_rfl)
          exact Any.ok_move (Any.post_val hb rfl h0)
        · refine Any.owes_plain rfl fun ρ wo hs' hb hc' => ?_
          have h23 : ρ (.tmp 23) = .int .i64 ((c : Nat) : Int) := hs'.old' 23 (by kernel_rfl)
          exact Any.ok_move (Any.post_val hb rfl h23)
        · refine Any.owes_plain rfl fun ρ wo hs' hb hc' => ?_
          have h165 : ρ (.tmp 165) = .slice (some ⟨g, 0, none⟩) L cap := hs'.new' 165 7 (by kernel_rfl)
          have h166 : ρ (.tmp 166) = .int .i64 ((c : Nat) : Int) := hs'.new' 166 8 (by kernel_rfl)
          go_simp
          exact Any.post_val hb rfl rfl
        · refine Any.owes_plain rfl fun ρ wo hs' hb hc' => ?_
          have h167 : ρ (.tmp 167) = .pointer (some ⟨g, c * 6, none⟩) := hs'.new' 167 9 (by kernel_rfl)
          have hp := HPX.out wo ((below_undrew hb).block g HGL.out)
          have c0 := hp.1
          have c1 := hp.2.1
          have c2 := hp.2.2.1
          have c3 := hp.2.2.2.1
          have c4 := hp.2.2.2.2.1
          have c5 := hp.2.2.2.2.2
          go_simp
          exact Any.post_val hb rfl rfl
        · refine Any.owes_plain rfl fun ρ wo hs' hb hc' => ?_
          have h158 : ρ (.tmp 158) = .func (.func 27) #[] #[] := hs'.new' 158 0 (by kernel_rfl)
          have h164 : ρ (.tmp 164) = .agg #[.string y0, .string y1, .string y2, .int .i64 y3, .int .i64 y4, .bool y5] := hs'.new' 164 6 (by kernel_rfl)
          have h168 : ρ (.tmp 168) = .agg #[.string x0, .string x1, .string x2, .int .i64 x3, .int .i64 x4, .bool x5] := hs'.new' 168 10 (by kernel_rfl)
          go_simp
          exact (HBF.out wo).mono fun e w' ⟨he, hb'⟩ => ⟨_, he, Any.post_vals hb rfl rfl hb'⟩
        · refine Any.owes_plain rfl fun ρ wo hs' hb hc' => ?_
          have h169 : ρ (.tmp 169) = .int .i64 q := hs'.new' 169 11 (by kernel_rfl)
          go_simp
          exact Any.post_val hb rfl rfl
        · refine Any.owes_plain rfl fun ρ wo hs' hb hc' => ?_
          have h170 : ρ (.tmp 170) = .bool T := hs'.new' 170 12 (by kernel_rfl)
          go_simp
          exact Any.post_val hb rfl rfl
      intro vals w5 hb hk ha
      have hT : vals 13 = .bool (!T) := hk 13 (by kernel_rfl)
      have HBC := Lib.hid hb
      clear hk ha hb
      simp only [Any.putAll]
      go_frame
      simp only [Nat.zero_add, Nat.reduceAdd]
      rw [hT]
      clear hT
      have HG5 := Lib.hid (below_grown HG.out HBC.out)
      have HO5 := Lib.hid (ownsRow_below HO.out HBC.out)
      cases T
      · have HNF := Lib.hid (HNF.out rfl)
        go_wp2_with fail
        go_roundw
        case rel => exact ⟨c + 1, r, by have := HIH2.out; have := HJB.out; omega, by have := HIH2.out; omega, HJB.out.2, by go_num, rfl, fun _ => HNF.out, HI.out.2, HO5.out, HG5.out⟩
        case measure => have := HIH2.out; (simp [intOf]) <;> omega
      · have HNT := Lib.hid (HNT.out rfl)
        go_wp2_with fail
        go_roundw
        case rel => exact ⟨s, c, HJB.out.1, HIH2.out.1, by have := HIH2.out; have := HJB.out; omega, rfl, rfl, HI.out.1, fun _ => HNT.out, HO5.out, HG5.out⟩
        case measure => have := HIH2.out; (simp [intOf]) <;> omega
    · have hki : ¬ ((s : Nat) : Int) < (r : Int) := by omega
      obtain rfl : s = r := by omega
      obtain ⟨ee, hee⟩ : ∃ ee, ee = n - s := ⟨_, rfl⟩
      have hfa : a ≤ s ∧ s ≤ m ∧ m ≤ ee ∧ ee ≤ b ∧ s ≤ mid ∧ mid ≤ ee ∧ s ≤ n := by have := HLL.out; have := HMN.out; have := HST.out; omega
      have e7 : (n : Int) - (s : Int) = ((ee : Nat) : Int) := by omega
      obtain ⟨L1, hL1⟩ : ∃ l, l = A.take (s - a) := ⟨_, rfl⟩
      obtain ⟨L2, hL2⟩ : ∃ l, l = A.drop (s - a) := ⟨_, rfl⟩
      obtain ⟨R1, hR1⟩ : ∃ l, l = C.take (ee - m) := ⟨_, rfl⟩
      obtain ⟨R2, hR2⟩ : ∃ l, l = C.drop (ee - m) := ⟨_, rfl⟩
      have hA12 : A = L1 ++ L2 := by rw [hL1, hL2, List.take_append_drop]
      have hC12 : C = R1 ++ R2 := by rw [hR1, hR2, List.take_append_drop]
      have l1 : L1.length = s - a := by rw [hL1, List.length_take]; have := HLL.out; omega
      have l2 : L2.length = m - s := by rw [hL2, List.length_drop]; have := HLL.out; omega
      have l3 : R1.length = ee - m := by rw [hR1, List.length_take]; have := HLL.out; omega
      have l4 : R2.length = b - ee := by rw [hR2, List.length_drop]; have := HLL.out; omega
      have hX1 : ∀ x ∈ L1, ∀ y ∈ R2, less y x = false := by
        by_cases h : st0 < s
        · by_cases hv : ee - m < C.length
          · have h1 := hlo h (s - 1 - a) (ee - m) (by have := HLL.out; omega) hv (by have := HMN.out; omega) (by omega)
            have h2 := cross_lo HSA.out HSC.out (by have := HLL.out; omega) hv h1
            rw [show s - 1 - a + 1 = s - a by have := HMN.out; omega, ← hL1, ← hR2] at h2
            exact h2
          · have : R2 = [] := List.length_eq_zero_iff.1 (by have := HLL.out; omega)
            rw [this]
            exact fun _ _ _ h => by cases h
        · rcases HST.out with ⟨q1, q2, q3⟩ | ⟨q1, q2, q3⟩
          · have : R2 = [] := List.length_eq_zero_iff.1 (by omega)
            rw [this]
            exact fun _ _ _ h => by cases h
          · have : L1 = [] := List.length_eq_zero_iff.1 (by omega)
            rw [this]
            exact fun _ h => by cases h
      have hX2 : ∀ x ∈ L2, ∀ y ∈ R1, less y x = true := by
        by_cases h : s < r0
        · have hv : ee - 1 - m < C.length := by have := HLL.out; have := HMN.out; have := HST.out; omega
          have hu : s - a < A.length := by have := HLL.out; have := HMN.out; omega
          have h1 := hhi h (s - a) (ee - 1 - m) hu hv (by omega) (by have := HMN.out; have := HST.out; omega)
          have h2 := cross_hi HSA.out HSC.out hu hv h1
          rw [show ee - 1 - m + 1 = ee - m by have := HMN.out; have := HST.out; omega, ← hL2, ← hR1] at h2
          exact h2
        · rcases HST.out with ⟨q1, q2, q3⟩ | ⟨q1, q2, q3⟩
          · have : R1 = [] := List.length_eq_zero_iff.1 (by have := HMN.out; omega)
            rw [this]
            exact fun _ _ _ h => by cases h
          · have : L2 = [] := List.length_eq_zero_iff.1 (by omega)
            rw [this]
            exact fun _ h => by cases h
      have hD0 : D = P ++ L1 ++ L2 ++ (R1 ++ R2) ++ Q := by rw [HD.out, hA12, hC12]; simp only [List.append_assoc]
      obtain ⟨D1, hD1⟩ : ∃ d, d = P ++ L1 ++ R1 ++ L2 ++ R2 ++ Q := ⟨_, rfl⟩
      obtain ⟨D2, hD2⟩ : ∃ d, d = P ++ mg L1 R1 ++ L2 ++ R2 ++ Q := ⟨_, rfl⟩
      have hRR : R = P ++ mg L1 R1 ++ mg L2 R2 ++ Q := by rw [HR.out, hA12, hC12, mg_split hX1 hX2]; simp only [List.append_assoc]
      have hAs : Asc L1 ∧ Asc L2 := by have := HSA.out; rw [hA12] at this; exact ⟨(List.pairwise_append.1 this).1, (List.pairwise_append.1 this).2.1⟩
      have hCs : Asc R1 ∧ Asc R2 := by have := HSC.out; rw [hC12] at this; exact ⟨(List.pairwise_append.1 this).1, (List.pairwise_append.1 this).2.1⟩
      have lD : D.length = L := HLL.out.1
      have lD1 : D1.length = L := by rw [hD1, ← lD, hD0]; simp; omega
      have lD2 : D2.length = L := by rw [hD2, ← lD, hD0]; simp [mg_length]; omega
      have lR : R.length = L := by rw [hRR, ← lD, hD0]; simp [mg_length]; omega
      have C1 : ∃ T : Bool, (Hid (∀ W : World, W.ownsRow B 37 6 (.slice (some ⟨g, 0, none⟩) L cap) L (pgCells D) → Calls Try.prog 65 #[.slice (some ⟨g, 0, none⟩) L cap, .int .i64 s, .int .i64 m, .int .i64 ee, .func (.func 27) #[] #[]] W (SortL W B L (.slice (some ⟨g, 0, none⟩) L cap) D1)) ∧ decide ((s : Int) < (m : Int)) = true ∧ decide (s < m) = true ∧ decide ((m : Int) < (ee : Int)) = true ∧ decide (m < ee) = true ∧ T = true) ∨
          (D1 = D ∧ decide ((s : Int) < (m : Int)) = false ∧ decide (s < m) = false ∧ (0 : Int) = 0 ∧ (0 : Int) = 0 ∧ T = false) ∨ (D1 = D ∧ decide ((s : Int) < (m : Int)) = true ∧ decide (s < m) = true ∧ decide ((m : Int) < (ee : Int)) = false ∧ decide (m < ee) = false ∧ T = false) := by
        by_cases h1 : s < m
        · by_cases h2 : m < ee
          · refine ⟨true, .inl ⟨Lib.hid (fun W hW => ?_), decide_eq_true (by omega), decide_eq_true h1, decide_eq_true (by omega), decide_eq_true h2, rfl⟩⟩
            have h3 := rot_any (P ++ L1) L2 R1 (R2 ++ Q) (by omega) (by omega) g cap B L s m ee W (by rw [← lD, hD0]; simp only [List.append_assoc]) (by have := HLL.out; rw [List.length_append]; omega) (by omega) (by omega) (by rw [hD0] at hW; simpa only [List.append_assoc] using hW) hl
            exact h3.mono fun e w' h4 => sortL_of (by rw [hD1]; simpa only [List.append_assoc] using h4) lD1
          · refine ⟨false, .inr (.inr ⟨?_, decide_eq_true (by omega), decide_eq_true h1, decide_eq_false (by omega), decide_eq_false h2, rfl⟩)⟩
            have : R1 = [] := List.length_eq_zero_iff.1 (by omega)
            rw [hD1, hD0, this]; simp only [List.append_assoc, List.nil_append]
        · refine ⟨false, .inr (.inl ⟨?_, decide_eq_false (by omega), decide_eq_false h1, rfl, rfl, rfl⟩)⟩
          have : L2 = [] := List.length_eq_zero_iff.1 (by omega)
          rw [hD1, hD0, this]; simp only [List.append_assoc, List.nil_append]
      have C2 : ∃ T : Bool, (Hid (∀ W : World, W.ownsRow B 37 6 (.slice (some ⟨g, 0, none⟩) L cap) L (pgCells D1) → Calls Try.prog 57 #[.slice (some ⟨g, 0, none⟩) L cap, .int .i64 a, .int .i64 s, .int .i64 mid, .func (.func 27) #[] #[]] W (SortL W B L (.slice (some ⟨g, 0, none⟩) L cap) D2)) ∧ decide ((a : Int) < (s : Int)) = true ∧ decide (a < s) = true ∧ decide ((s : Int) < (mid : Int)) = true ∧ decide (s < mid) = true ∧ T = true) ∨
          (D2 = D1 ∧ decide ((a : Int) < (s : Int)) = false ∧ decide (a < s) = false ∧ (0 : Int) = 0 ∧ (0 : Int) = 0 ∧ T = false) ∨ (D2 = D1 ∧ decide ((a : Int) < (s : Int)) = true ∧ decide (a < s) = true ∧ decide ((s : Int) < (mid : Int)) = false ∧ decide (s < mid) = false ∧ T = false) := by
        by_cases h1 : a < s
        · by_cases h2 : s < mid
          · refine ⟨true, .inl ⟨Lib.hid (fun W hW => ?_), decide_eq_true (by omega), decide_eq_true h1, decide_eq_true (by omega), decide_eq_true h2, rfl⟩⟩
            have h3 := HIH.out P L1 R1 (L2 ++ R2 ++ Q) (by have := HLL.out; have := HMN.out; omega) (by omega) (by have := HMN.out; omega) hAs.1 hCs.1 a s mid W (by rw [← lD1, hD1]; simp only [List.append_assoc]) HLL.out.2.1 (by omega) (by have := HMN.out; omega) (by rw [hD1] at hW; simpa only [List.append_assoc] using hW)
            exact h3.mono fun e w' h4 => sortL_of (by rw [hD2]; simpa only [List.append_assoc] using h4) lD2
          · refine ⟨false, .inr (.inr ⟨?_, decide_eq_true (by omega), decide_eq_true h1, decide_eq_false (by omega), decide_eq_false h2, rfl⟩)⟩
            have : R1 = [] := List.length_eq_zero_iff.1 (by have := HMN.out; omega)
            rw [hD2, hD1, mg_or (.inr this)]; simp only [List.append_assoc]
        · refine ⟨false, .inr (.inl ⟨?_, decide_eq_false (by omega), decide_eq_false h1, rfl, rfl, rfl⟩)⟩
          have : L1 = [] := List.length_eq_zero_iff.1 (by omega)
          rw [hD2, hD1, mg_or (.inl this)]; simp only [List.append_assoc]
      have C3 : ∃ T : Bool, (Hid (∀ W : World, W.ownsRow B 37 6 (.slice (some ⟨g, 0, none⟩) L cap) L (pgCells D2) → Calls Try.prog 57 #[.slice (some ⟨g, 0, none⟩) L cap, .int .i64 mid, .int .i64 ee, .int .i64 b, .func (.func 27) #[] #[]] W (SortL W B L (.slice (some ⟨g, 0, none⟩) L cap) R)) ∧ decide ((mid : Int) < (ee : Int)) = true ∧ decide (mid < ee) = true ∧ decide ((ee : Int) < (b : Int)) = true ∧ decide (ee < b) = true ∧ T = true) ∨
          (R = D2 ∧ decide ((mid : Int) < (ee : Int)) = false ∧ decide (mid < ee) = false ∧ (0 : Int) = 0 ∧ (0 : Int) = 0 ∧ T = false) ∨ (R = D2 ∧ decide ((mid : Int) < (ee : Int)) = true ∧ decide (mid < ee) = true ∧ decide ((ee : Int) < (b : Int)) = false ∧ decide (ee < b) = false ∧ T = false) := by
        by_cases h1 : mid < ee
        · by_cases h2 : ee < b
          · refine ⟨true, .inl ⟨Lib.hid (fun W hW => ?_), decide_eq_true (by omega), decide_eq_true h1, decide_eq_true (by omega), decide_eq_true h2, rfl⟩⟩
            have h3 := HIH.out (P ++ mg L1 R1) L2 R2 Q (by have := HLL.out; have := HMN.out; omega) (by have := HMN.out; omega) (by omega) hAs.2 hCs.2 mid ee b W (by rw [← lD2, hD2]) (by have := HLL.out; have := HMN.out; simp [mg_length]; omega) (by have := HMN.out; omega) (by omega) (by rw [hD2] at hW; exact hW)
            exact h3.mono fun e w' h4 => sortL_of (by rw [hRR]; exact h4) lR
          · refine ⟨false, .inr (.inr ⟨?_, decide_eq_true (by omega), decide_eq_true h1, decide_eq_false (by omega), decide_eq_false h2, rfl⟩)⟩
            have : R2 = [] := List.length_eq_zero_iff.1 (by omega)
            rw [hRR, hD2, mg_or (.inr this)]; simp only [List.append_assoc]
        · refine ⟨false, .inr (.inl ⟨?_, decide_eq_false (by omega), decide_eq_false h1, rfl, rfl, rfl⟩)⟩
          have : L2 = [] := List.length_eq_zero_iff.1 (by have := HMN.out; omega)
          rw [hRR, hD2, mg_or (.inl this)]; simp only [List.append_assoc]
      have HC := Lib.hid (And.intro hown hgr)
      have HLR := Lib.hid lR
      obtain ⟨T1, C1⟩ := C1
      obtain ⟨T2, C2⟩ := C2
      obtain ⟨T3, C3⟩ := C3
      have HC1 := Lib.hid C1
      have HC2 := Lib.hid C2
      have HC3 := Lib.hid C3
      clear C1 C2 C3
      clear hRR hD0 hD1 hD2 hX1 hX2 hAs hCs lD lD1 lD2 lR l1 l2 l3 l4 hL1 hL2 hR1 hR2 hA12 hC12 hee hfa hown hgr hlo hhi hss hsr hrr hlt HR HD HO HG HI HW HDX HDY HLL HSA HSC HIH HST HMN HGL
      go_upto_region 39 with fail
      go_cut [185] from 178 (fun s wx => s = .bool T1 ∧ wr = wx)
      case first =>
        rcases HC1.out with ⟨-, ta, ta', tb, tb', hT⟩ | ⟨-, ta, ta', tb, tb', hT⟩ | ⟨-, ta, ta', tb, tb', hT⟩
        all_goals
          have HTT := Lib.hid hT
          clear hT
          go_wp2_with fail
          go_meet
          exact ⟨by rw [HTT.out], rfl⟩
      obtain ⟨rfl, rfl⟩ := hcut
      go_upto_if 185 with fail
      go_cut [24] from 178 (fun s wx => s = .int .i64 (ee : Nat) ∧ wx.ownsRow B 37 6 (.slice (some ⟨g, 0, none⟩) L cap) L (pgCells D1) ∧ w.grownBy wx (some g))
      case first =>
        rcases HC1.out with ⟨HS, -, -, -, -, rfl⟩ | ⟨hd, -, -, -, -, rfl⟩ | ⟨hd, -, -, -, -, rfl⟩
        · go_wp2_with (first
            | ((refine (HS.out _ HC.out.1).mono ?_); rintro e w8 ⟨rfl, ho8, hg8⟩; have HC8 := Lib.hid (And.intro ho8 (grown_then HC.out.2 hg8)); clear ho8 hg8)
            | fail)
          go_meet
          exact ⟨rfl, HC8.out.1, HC8.out.2⟩
        · have HDD := Lib.hid hd
          clear hd
          go_wp2_with fail
          go_meet
          exact ⟨rfl, by rw [HDD.out]; exact HC.out.1, HC.out.2⟩
        · have HDD := Lib.hid hd
          clear hd
          go_wp2_with fail
          go_meet
          exact ⟨rfl, by rw [HDD.out]; exact HC.out.1, HC.out.2⟩
      obtain ⟨rfl, ho1, hg1⟩ := hcut
      have HC := Lib.hid (And.intro ho1 hg1)
      clear ho1 hg1
      go_upto_region 41 with fail
      go_cut [199] from 192 (fun s wx => s = .bool T2 ∧ wc = wx)
      case first =>
        rcases HC2.out with ⟨-, ta, ta', tb, tb', hT⟩ | ⟨-, ta, ta', tb, tb', hT⟩ | ⟨-, ta, ta', tb, tb', hT⟩
        all_goals
          have HTT := Lib.hid hT
          clear hT
          go_wp2_with fail
          go_meet
          exact ⟨by rw [HTT.out], rfl⟩
      obtain ⟨rfl, rfl⟩ := hcut
      go_upto_if 199 with fail
      go_cut [24] from 192 (fun s wx => s = .int .i64 (ee : Nat) ∧ wx.ownsRow B 37 6 (.slice (some ⟨g, 0, none⟩) L cap) L (pgCells D2) ∧ w.grownBy wx (some g))
      case first =>
        rcases HC2.out with ⟨HS, -, -, -, -, rfl⟩ | ⟨hd, -, -, -, -, rfl⟩ | ⟨hd, -, -, -, -, rfl⟩
        · go_wp2_with (first
            | ((refine (HS.out _ HC.out.1).mono ?_); rintro e w8 ⟨rfl, ho8, hg8⟩; have HC8 := Lib.hid (And.intro ho8 (grown_then HC.out.2 hg8)); clear ho8 hg8)
            | fail)
          go_meet
          exact ⟨rfl, HC8.out.1, HC8.out.2⟩
        · have HDD := Lib.hid hd
          clear hd
          go_wp2_with fail
          go_meet
          exact ⟨rfl, by rw [HDD.out]; exact HC.out.1, HC.out.2⟩
        · have HDD := Lib.hid hd
          clear hd
          go_wp2_with fail
          go_meet
          exact ⟨rfl, by rw [HDD.out]; exact HC.out.1, HC.out.2⟩
      obtain ⟨rfl, ho1, hg1⟩ := hcut
      have HC := Lib.hid (And.intro ho1 hg1)
      clear ho1 hg1
      go_upto_region 43 with fail
      go_cut [213] from 206 (fun s wx => s = .bool T3 ∧ wc = wx)
      case first =>
        rcases HC3.out with ⟨-, ta, ta', tb, tb', hT⟩ | ⟨-, ta, ta', tb, tb', hT⟩ | ⟨-, ta, ta', tb, tb', hT⟩
        all_goals
          have HTT := Lib.hid hT
          clear hT
          go_wp2_with fail
          go_meet
          exact ⟨by rw [HTT.out], rfl⟩
      obtain ⟨rfl, rfl⟩ := hcut
      rcases HC3.out with ⟨HS, -, -, -, -, rfl⟩ | ⟨hd, -, -, -, -, rfl⟩ | ⟨hd, -, -, -, -, rfl⟩
      · go_wp2_with (first
          | ((refine (HS.out _ HC.out.1).mono ?_); rintro e w8 ⟨rfl, ho8, hg8⟩; have HC8 := Lib.hid (And.intro ho8 (grown_then HC.out.2 hg8)); clear ho8 hg8)
          | fail)
        go_end0
        exact ⟨rfl, by rw [HLR.out]; exact HC8.out.1, HC8.out.2⟩
      · have HDD := Lib.hid hd
        clear hd
        go_wp2_with fail
        go_end0
        exact ⟨rfl, by rw [HLR.out, HDD.out]; exact HC.out.1, HC.out.2⟩
      · have HDD := Lib.hid hd
        clear hd
        go_wp2_with fail
        go_end0
        exact ⟨rfl, by rw [HLR.out, HDD.out]; exact HC.out.1, HC.out.2⟩
end Go.Proofs.Ytnlfhncbnfmccaa.Sc
namespace Go.Proofs.Ytnlfhncbnfmccaa.Sc
open Go Go.RowKit Go.ChangeShapes Go.WideShapes Go.ChangeAt Go.Sort Go.Shelf
set_option maxRecDepth 100000

section
variable {α : Type} [Inhabited α] (lt : α → α → Bool)
theorem insInner_mid (X : List α) (P : List α) : ∀ (x : α) (rest : List α), insInner lt X.length (X.length + P.length) (X ++ P ++ x :: rest).toArray = (X ++ insE lt P x ++ rest).toArray := by
  induction h : P.length generalizing P with
  | zero =>
    intro x rest
    obtain rfl := List.length_eq_zero_iff.1 h
    have e : X ++ [] ++ x :: rest = X ++ insE lt [] x ++ rest := by simp [insE, insB]
    rw [Nat.add_zero, e]
    generalize (X ++ insE lt [] x ++ rest).toArray = d
    cases hx : X.length with
    | zero => rfl
    | succ n =>
      rw [insInner]
      simp
  | succ n ih =>
    intro x rest
    obtain ⟨P', a, rfl⟩ : ∃ P' a, P = P' ++ [a] := ⟨P.dropLast, P.getLast (by intro e; rw [e] at h; cases h), (List.dropLast_concat_getLast _).symm⟩
    have hl : P'.length = n := by simpa using h
    subst hl
    have e : X ++ (P' ++ [a]) ++ x :: rest = (X ++ P') ++ a :: x :: rest := by simp
    have hn : X.length + (P'.length + 1) = (X ++ P').length + 1 := by simp; omega
    rw [e, hn, insInner, at_next, at_mid, insE_snoc]
    cases hx : lt x a
    · simp
    · have h1 : (decide ((X ++ P').length + 1 > X.length) && true) = true := by simp; omega
      rw [h1, if_pos rfl, swp_mid]
      have h2 := ih P' rfl x (a :: rest)
      rw [show X.length + P'.length = (X ++ P').length by simp] at h2
      rw [h2]
      simp
omit [Inhabited α] in
theorem insE_len (P : List α) (x : α) : (insE lt P x).length = P.length + 1 := by
  unfold insE
  rw [List.length_reverse]
  have : ∀ l : List α, (insB lt l x).length = l.length + 1 := by
    intro l
    induction l with
    | nil => rfl
    | cons b q ih => rw [insB]; split <;> simp [ih]
  rw [this, List.length_reverse]
theorem insOuter_mid (X S : List α) : ∀ (rest P : List α), insOuter lt X.length (X.length + P.length + rest.length) (X.length + P.length) (X ++ P ++ rest ++ S).toArray = (X ++ rest.foldl (insE lt) P ++ S).toArray
  | [], P => by
    rw [insOuter, if_neg (by simp)]
    simp
  | x :: r, P => by
    have e : X ++ P ++ x :: r ++ S = X ++ P ++ x :: (r ++ S) := by simp
    rw [insOuter, if_pos (by simp), e, insInner_mid]
    have h2 := insOuter_mid X S r (insE lt P x)
    rw [insE_len] at h2
    rw [List.foldl_cons, ← h2, List.length_cons, ← List.append_assoc (X ++ insE lt P x) r S]
    congr 1 <;> omega
theorem insertion_mid (X A S : List α) : insertionSort lt (X ++ A ++ S).toArray X.length (X.length + A.length) = (X ++ A.foldl (insE lt) [] ++ S).toArray := by
  cases A with
  | nil => rw [insertionSort, insOuter, if_neg (by simp)]; simp
  | cons x r =>
    have h := insOuter_mid lt X S r [x]
    rw [insertionSort]
    have e : X.length + ([x] : List α).length + r.length = X.length + (x :: r).length := by simp; omega
    rw [e] at h
    have e2 : X ++ [x] ++ r ++ S = X ++ x :: r ++ S := by simp
    rw [e2] at h
    exact h
end
theorem rank_mid (X A S : List Pg) : (insertionSort (ltOf cmpP) (X ++ A ++ S).toArray X.length (X.length + A.length)).toList = X ++ rankOf A ++ S := by
  rw [insertion_mid]
  have : ∀ (r P : List Pg), r.foldl (insE (ltOf cmpP)) P = r.foldl rIns P := by
    intro r
    induction r with
    | nil => intro P; rfl
    | cons x q ih => intro P; rw [List.foldl_cons, List.foldl_cons, insE_is, ih]
  rw [this]
  rfl
set_option maxHeartbeats 4000000 in
theorem stable39_any (D : List Pg) (v : Value) (B : Nat) (w : World) (h : w.ownsRow B 37 6 v D.length (pgCells D)) (hl : D.length ≤ 39) :
    Calls Try.prog 47 #[v, .int .i64 (D.length : Int), .func (.func 27) #[] #[]] w (SortP w B v (rankOf D)) := by
  by_cases h20 : D.length ≤ 20
  · exact stable_any D v B w h h20
  rcases h.2 with ⟨rfl, h0⟩ | ⟨g, cap, cur, rfl, -⟩
  · omega
  obtain ⟨A, C, rfl, hA⟩ : ∃ A C, D = A ++ C ∧ A.length = 20 := ⟨D.take 20, D.drop 20, (List.take_append_drop _ _).symm, by rw [List.length_take]; omega⟩
  obtain ⟨L, hL⟩ : ∃ L, (A ++ C).length = L := ⟨_, rfl⟩
  have hC : 20 + C.length = L := by rw [← hL, List.length_append, hA]
  have lA := rankOf_length A
  have lC := rankOf_length C
  have HI1 := Lib.hid (by
    have h1 := insert_any (A ++ C) g cap B 0 20 w h (by omega) (by omega) (by omega)
    have h2 := rank_mid [] A C
    rw [List.nil_append, List.nil_append, List.length_nil, Nat.zero_add, hA] at h2
    rw [h2, hL] at h1
    exact h1.mono fun e w' h4 => sortL_of h4 (by rw [← hL]; simp [lA]) : Calls Try.prog 56 #[.slice (some ⟨g, 0, none⟩) L cap, .int .i64 (0 : Nat), .int .i64 (20 : Nat), .func (.func 27) #[] #[]] w (SortL w B L (.slice (some ⟨g, 0, none⟩) L cap) (rankOf A ++ C)))
  have l1 : (rankOf A ++ C).length = L := by rw [← hL]; simp [lA]
  have HI2 := Lib.hid (fun W (hW : W.ownsRow B 37 6 (.slice (some ⟨g, 0, none⟩) L cap) L (pgCells (rankOf A ++ C))) => (by
    have h1 := insert_any (rankOf A ++ C) g cap B 20 L W (by rw [l1]; exact hW) (by omega) (by omega) (by omega)
    have h2 := rank_mid (rankOf A) C []
    rw [List.append_nil, List.append_nil, lA, hA, hC] at h2
    rw [h2, l1] at h1
    exact h1.mono fun e w' h4 => sortL_of h4 (by simp [lA, lC, ← hL]) : Calls Try.prog 56 #[.slice (some ⟨g, 0, none⟩) L cap, .int .i64 (20 : Nat), .int .i64 L, .func (.func 27) #[] #[]] W (SortL W B L (.slice (some ⟨g, 0, none⟩) L cap) (rankOf A ++ rankOf C))))
  have HS := Lib.hid (fun W (hW : W.ownsRow B 37 6 (.slice (some ⟨g, 0, none⟩) L cap) L (pgCells (rankOf A ++ rankOf C))) => (by
    have h1 := sym_any g cap B L (by omega) L [] (rankOf A) (rankOf C) [] (by omega) (by omega) (by omega) (desc_asc (rank_desc A)) (desc_asc (rank_desc C)) 0 20 L W (by simp [lA, lC, ← hL]) rfl (by omega) (by omega) (by simpa using hW)
    rw [List.nil_append, List.append_nil, mg_ranks] at h1
    exact h1.mono fun e w' h4 => sortL_of h4 (by rw [rankOf_length]; exact hL) : Calls Try.prog 57 #[.slice (some ⟨g, 0, none⟩) L cap, .int .i64 (0 : Nat), .int .i64 (20 : Nat), .int .i64 L, .func (.func 27) #[] #[]] W (SortL W B L (.slice (some ⟨g, 0, none⟩) L cap) (rankOf (A ++ C)))))
  have HR : Hid ((rankOf (A ++ C)).length = L) := Lib.hid (by rw [rankOf_length]; exact hL)
  have t1 : decide ((20 : Int) ≤ (L : Int)) = true := decide_eq_true (by omega)
  have t1' : decide (20 ≤ L) = true := decide_eq_true (by omega)
  have t2 : decide ((40 : Int) ≤ (L : Int)) = false := decide_eq_false (by omega)
  have t2' : decide (40 ≤ L) = false := decide_eq_false (by omega)
  have t3 : decide ((20 : Int) < (L : Int)) = true := decide_eq_true (by omega)
  have t3' : decide (20 < L) = true := decide_eq_true (by omega)
  have t4 : decide ((40 : Int) < (L : Int)) = false := decide_eq_false (by omega)
  have t4' : decide (40 < L) = false := decide_eq_false (by omega)
  rw [hL]
  clear h hl h20 hA hC lA lC l1 hL
  generalize rankOf A ++ rankOf C = D2 at *
  generalize rankOf A ++ C = D1 at *
  generalize rankOf (A ++ C) = E at *
  go_enter Try.func47, Try.ntmps47
  go_wp2_with fail
  refine wp_loop_rounds 2 ?_
  rw [rounds_succ]
  go_wp2_with (first
    | (refine HI1.out.mono ?_; rintro e w2 ⟨rfl, ho2, hg2⟩; have HO2 := Lib.hid ho2; have HG2 := Lib.hid hg2; clear ho2 hg2)
    | fail)
  rw [rounds_succ]
  go_wp2_with (first
    | (refine (HI2.out _ HO2.out).mono ?_; rintro e w3 ⟨rfl, ho3, hg3⟩; have HO3 := Lib.hid ho3; have HG3 := Lib.hid hg3; clear ho3 hg3)
    | fail)
  refine wp_loop_rounds 2 ?_
  rw [rounds_succ]
  go_wp2_with fail
  refine wp_loop_rounds 1 ?_
  rw [rounds_succ]
  go_wp2_with (first
    | (refine (HS.out _ HO3.out).mono ?_; rintro e w4 ⟨rfl, ho4, hg4⟩; have HO4 := Lib.hid ho4; have HG4 := Lib.hid hg4; clear ho4 hg4)
    | fail)
  rw [rounds_succ]
  go_wp2_with fail
  go_end0
  exact ⟨rfl, by rw [HR.out]; exact HO4.out, grown_then HG2.out (grown_then HG3.out HG4.out)⟩
theorem sortStable_any (D : List Pg) (v : Value) (B : Nat) (w : World) (h : w.ownsRow B 37 6 v D.length (pgCells D)) (hl : D.length ≤ 39) :
    Calls Try.prog 26 #[v, .func (.func 27) #[] #[]] w (SortP w B v (rankOf D)) := by
  obtain ⟨a, c, rfl⟩ : ∃ a c, v = .slice a D.length c := by simpa using (own_pgs h rfl).shape
  have HS := Lib.hid (stable39_any D _ B w h hl)
  have hll : D.length ≤ 39 := hl
  clear h hl
  go_enter Try.func26, Try.ntmps26
  go_wp2_with (first
    | ((with_reducible refine HS.out.mono ?_); rintro e w2 ⟨rfl, ho2, hg2⟩; have HO2 := Lib.hid ho2; have HG2 := Lib.hid hg2; clear ho2 hg2)
    | fail)
  go_end0
  exact ⟨rfl, HO2.out, HG2.out⟩
set_option maxHeartbeats 2000000 in
theorem rank_any {w : World} {F : Nat → Prop} {bk bm n : Nat} {R : ByteArray → List Pg} {es : Mp.Ents} (h : LnAt w F bk bm R n es) (t : ByteArray) (hl : (R t).length ≤ 39) :
    Calls Try.prog 13 #[.pointer (some ⟨bk, 0, none⟩), .string t] w (RetRow w 37 6 (rankOf (R t)).length (pgCells (rankOf (R t)))) := by
  have HM := Lib.hid h.map
  have y0 := cell_blk h.box 0
  have HGV : Hid ((Mp.mget es t).getD (.slice none 0 0) = rowV es t) := Lib.hid rfl
  have HC := Lib.hid (clonePg_any (R t) _ w (own_pgs (h.row t) rfl) (by omega))
  have HS := Lib.hid (fun v B W h => sortStable_any (R t) v B W h hl)
  generalize rowV es t = v at *
  generalize rankOf (R t) = E at *
  clear h hl
  go_enter Try.func13, Try.ntmps13
  go_wp2_with (first
    | ((with_reducible refine Mp.wpl_val (l := es) (key := t) (v := v) ?_ ?_ ?_ Try.underlying58 Try.underlying9 (zeroRow _) HM.out HGV.out ?_); rfl; rfl; rfl)
    | ((with_reducible refine HC.out.mono ?_); rintro e w2 ⟨v2, rfl, ho2, hb2⟩; have HO2 := Lib.hid ho2; have HB2 := Lib.hid hb2; clear ho2 hb2)
    | ((with_reducible refine (HS.out _ _ _ HO2.out).mono ?_); rintro e w3 ⟨rfl, ho3, hg3⟩; have HO3 := Lib.hid ho3; have HG3 := Lib.hid hg3; clear ho3 hg3)
    | fail)
  go_ret
  exact ⟨v2, rfl, HO3.out, HB2.out.grown HG3.out HB2.out.size (fun k hk => (HO2.out.lt k hk).1)⟩
end Go.Proofs.Ytnlfhncbnfmccaa.Sc
