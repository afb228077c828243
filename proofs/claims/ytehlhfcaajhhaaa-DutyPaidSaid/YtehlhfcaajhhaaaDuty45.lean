/- The duty of a value, by both; whether rows are too many. -/
import Derived.Test.YtehlhfcaajhhaaaDutyR45
namespace Go.Proofs.Ytehlhfcaajhhaaa.Km
open Go Go.RowKit
section
variable {α : Type} [DecidableEq α] {enc : α → Value} {P : Program} {ops : Array Oper} {Q : Exit → Act → World → Prop} {dst : Option Tmp} {t k e ty : TypeId} {pos : String} {after : Array Edge} {gd : Option (Nat × Bool)} {w : World} {a : Act} {rest : List Oper}
theorem wpl_got {m x : Operand} {z v : Value} {b : Nat} {l : List (α × Value)} {key : α} {y : Lit} (hw : Region.wanted ⟨dst, .lookup t m x true, ty, pos, after, gd⟩ (yielded ops a.tmps) = true)
    (hm : a.eval m = .map (some b)) (hx : a.eval x = enc key) (ht : P.underlying t = some (.map k e)) (K : Maps.Keyed P k) (inj : ∀ a b, enc a = enc b → a = b) (hz : (zeroValue e).run P w = .ok z w)
    (h : KMapAt P k enc w b l) (hnd : (l.map Prod.fst).Nodup) (ha : keyOf P k (enc key) = some y) (hg : kget l key = some v) (hR : wpList P ops Q rest (a.put dst (.tuple #[v, .bool true])) w) : wpList P ops Q (⟨dst, .lookup t m x true, ty, pos, after, gd⟩ :: rest) a w :=
  wpl_lookup hw hm hx ht K inj hz h hnd ha (by rw [hg]; exact hR)
theorem wpl_miss {m x : Operand} {z : Value} {b : Nat} {l : List (α × Value)} {key : α} {y : Lit} (hw : Region.wanted ⟨dst, .lookup t m x true, ty, pos, after, gd⟩ (yielded ops a.tmps) = true)
    (hm : a.eval m = .map (some b)) (hx : a.eval x = enc key) (ht : P.underlying t = some (.map k e)) (K : Maps.Keyed P k) (inj : ∀ a b, enc a = enc b → a = b) (hz : (zeroValue e).run P w = .ok z w)
    (h : KMapAt P k enc w b l) (hnd : (l.map Prod.fst).Nodup) (ha : keyOf P k (enc key) = some y) (hg : kget l key = none) (hR : wpList P ops Q rest (a.put dst (.tuple #[z, .bool false])) w) : wpList P ops Q (⟨dst, .lookup t m x true, ty, pos, after, gd⟩ :: rest) a w :=
  wpl_lookup hw hm hx ht K inj hz h hnd ha (by rw [hg]; exact hR)
end
end Go.Proofs.Ytehlhfcaajhhaaa.Km
namespace Go.Proofs.Ytehlhfcaajhhaaa.Sc
open Go Go.RowKit Go.ChangeShapes Go.WideShapes Go.ChangeAt
set_option maxRecDepth 100000

/-- The row that serves: its code and its origin, or its code and none. -/
def rateOf (l : List Rt) (c o : ByteArray) : Option Rt := match l.find? (isR c o) with | some r => some r | none => l.find? (isR c ⟨#[]⟩)
/-- The duty of a value, and an error's number. -/
def dutyP (l : List Rt) (c o : ByteArray) (a : Int) : Int × Int :=
  if a < 0 ∨ 1099511627776 < a then (0, 3) else match rateOf l c o with
    | none => (0, 4)
    | some r => if ceilq a r.num r.den ≤ 1099511627776 then (ceilq a r.num r.den, 0) else (0, 3)
def dutyW (p : Int × Int) : Value := .tuple #[.int .i64 p.1, .int .i64 p.2]
def rEnt (r : Rt) : Value := .agg #[.int .i64 r.num, .int .i64 r.den]
theorem kget_find (l : List Rt) (c o : ByteArray) : Km.kget (tEnts l) (c, o) = (l.find? (isR c o)).map rEnt := by
  induction l with
  | nil => rfl
  | cons r l ih =>
    by_cases h : isR c o r = true
    · rw [List.find?_cons_of_pos h]
      simp only [isR, Bool.and_eq_true, decide_eq_true_eq] at h
      simp [tEnts, Km.kget, h.1, h.2, rEnt]
    · rw [List.find?_cons_of_neg h, ← ih]
      have : ¬ ((c, o) = (r.code, r.org)) := by
        rintro h2
        simp only [Prod.mk.injEq] at h2
        exact h (by simp [isR, h2.1, h2.2])
      simp only [tEnts, List.map_cons, Km.kget, this, if_false]
theorem fAt_find (c o : ByteArray) : ∀ (l : List Rt) (k : Nat), (fAt c o k l = -1 ∧ l.find? (isR c o) = none) ∨ ∃ j, ∃ h : j < l.length, fAt c o k l = ((k + j : Nat) : Int) ∧ l.find? (isR c o) = some l[j]
  | [], k => .inl ⟨rfl, rfl⟩
  | r :: l, k => by
    by_cases h : isR c o r = true
    · exact .inr ⟨0, by simp, by simp [fAt, h], by rw [List.find?_cons_of_pos h]; rfl⟩
    · rw [fAt, if_neg h, List.find?_cons_of_neg h]
      rcases fAt_find c o l (k + 1) with h1 | ⟨j, hj, h1, h2⟩
      · exact .inl h1
      · exact .inr ⟨j + 1, by simp; omega, by rw [h1]; congr 1; omega, by rw [h2]; rfl⟩
theorem ratNat {r : Rt} (hr : r.ok = true) (hf : r.fit) : ∃ N D : Nat, r.num = N ∧ r.den = D ∧ N ≤ 9223372036854775807 ∧ 1 ≤ D ∧ D ≤ 9223372036854775807 := by
  simp only [Rt.ok, Bool.and_eq_true, ratOk, decide_eq_true_eq] at hr
  obtain ⟨-, -, -, h1, h2⟩ := hr
  obtain ⟨N, hN⟩ := Int.eq_ofNat_of_zero_le h1
  obtain ⟨D, hD⟩ := Int.eq_ofNat_of_zero_le (show 0 ≤ r.den by omega)
  have := hf.n.2
  have := hf.d.2
  exact ⟨N, D, hN, hD, by omega, by omega, by omega⟩
theorem scale_of (r : Rt) (a : Int) (hr : r.ok = true) (hf : r.fit) (h0 : 0 ≤ a) (h1 : a ≤ 1099511627776) (w : World) :
    Calls Try.prog 34 #[.agg #[.string ⟨#[85, 83, 68]⟩, .int .i64 a], .agg #[.int .i64 r.num, .int .i64 r.den], .int .i64 1] w (Ret w (scaleV a r.num r.den)) := by
  obtain ⟨N, D, e1, e2, h2, h3, h4⟩ := ratNat hr hf
  obtain ⟨A, rfl⟩ := Int.eq_ofNat_of_zero_le h0
  rw [e1, e2]
  exact scale_any A N D w (by omega) h2 h3 h4
theorem refScale_of (r : Rt) (a : Int) (hr : r.ok = true) (hf : r.fit) (h0 : 0 ≤ a) (h1 : a ≤ 1099511627776) (w : World) :
    Calls Try.prog 35 #[.agg #[.string ⟨#[85, 83, 68]⟩, .int .i64 a], .agg #[.int .i64 r.num, .int .i64 r.den], .int .i64 1] w (Ret w (scaleV a r.num r.den)) := by
  obtain ⟨N, D, e1, e2, h2, h3, h4⟩ := ratNat hr hf
  obtain ⟨A, rfl⟩ := Int.eq_ofNat_of_zero_le h0
  rw [e1, e2]
  exact refScale_any A N D w (by omega) h2 h3 h4
/-- A tariff: its rows in memory, all of which may be, none twice. -/
structure Taf (w : World) (bt bm : Nat) (l : List Rt) : Prop where
  tar : Tar w bt bm l
  nd : ((tEnts l).map Prod.fst).Nodup
  ok : ∀ r ∈ l, r.ok = true
  fit : ∀ r ∈ l, r.fit
theorem Taf.below {B : Nat} {w w' : World} {bt bm : Nat} {l : List Rt} (h : Taf w bt bm l) (hb : Below B w w') (hB : w.heap.size ≤ B) : Taf w' bt bm l :=
  ⟨⟨blk hb (Nat.lt_of_lt_of_le (lt_blk h.tar.1) hB) h.tar.1, h.tar.2.same (hb.block bm (Nat.lt_of_lt_of_le h.tar.2.lt hB))⟩, h.nd, h.ok, h.fit⟩
theorem retW {w w' : World} {p : Int × Int} {x y : Int} (h : p = (x, y)) (hb : Below w.heap.size w w') : Ret w (dutyW p) (.returned (.tuple #[.int .i64 x, .int .i64 y])) w' := ⟨by rw [h]; rfl, hb⟩
theorem dutyP_out {l : List Rt} {c o : ByteArray} {a : Int} (h : a < 0 ∨ 1099511627776 < a) : dutyP l c o a = (0, 3) := by rw [dutyP, if_pos h]
theorem dutyP_none {l : List Rt} {c o : ByteArray} {a : Int} (h : ¬ (a < 0 ∨ 1099511627776 < a)) (hr : rateOf l c o = none) : dutyP l c o a = (0, 4) := by rw [dutyP, if_neg h, hr]
theorem dutyP_big {l : List Rt} {c o : ByteArray} {a : Int} {r : Rt} (h : ¬ (a < 0 ∨ 1099511627776 < a)) (hr : rateOf l c o = some r) (hc : ¬ ceilq a r.num r.den ≤ 1099511627776) : dutyP l c o a = (0, 3) := by rw [dutyP, if_neg h, hr]; exact if_neg hc
theorem dutyP_some {l : List Rt} {c o : ByteArray} {a : Int} {r : Rt} (h : ¬ (a < 0 ∨ 1099511627776 < a)) (hr : rateOf l c o = some r) (hc : ceilq a r.num r.den ≤ 1099511627776) : dutyP l c o a = (ceilq a r.num r.den, 0) := by rw [dutyP, if_neg h, hr]; exact if_pos hc
set_option maxHeartbeats 8000000 in
theorem tarDuty_any (l : List Rt) (bt bm : Nat) (c o : ByteArray) (a : Int) (w : World) (ht : Taf w bt bm l) (hc : c.size ≤ maxLen) (ho : o.size ≤ maxLen) :
    Calls Try.prog 13 #[.pointer (some ⟨bt, 0, none⟩), .string c, .int .i64 a, .string o] w (Ret w (dutyW (dutyP l c o a))) := by
  have HT := Lib.hid ht
  obtain ⟨y1, hy1⟩ := rowKey c o hc ho
  obtain ⟨y2, hy2⟩ := rowKey c ⟨#[]⟩ hc (by decide)
  have HY1 : Hid (keyOf Try.prog 74 (rowEnc (c, o)) = some y1) := Lib.hid hy1
  have HY2 : Hid (keyOf Try.prog 74 (rowEnc (c, ⟨#[]⟩)) = some y2) := Lib.hid hy2
  have c0 := cell_blk ht.tar.1 0
  have hbt := lt_blk ht.tar.1
  have HK := Lib.hid ht.tar.2
  have HND := Lib.hid ht.nd
  clear ht hy1 hy2
  by_cases hr : a < 0 ∨ 1099511627776 < a
  · have HQ := Lib.hid (dutyP_out (l := l) (c := c) (o := o) hr)
    by_cases h0 : a < 0
    · have t0 : decide (a < 0) = true := decide_eq_true h0
      clear hr h0
      go_enter Try.func13, Try.ntmps13
      go_wp2_with fail
      go_ret2
      exact retW HQ.out (Below.refl _ _)
    · have t0 : decide (a < 0) = false := decide_eq_false h0
      have t1 : decide (1099511627776 < a) = true := decide_eq_true (by omega)
      clear hr h0
      go_enter Try.func13, Try.ntmps13
      go_wp2_with fail
      go_ret2
      exact retW HQ.out (Below.refl _ _)
  · have t0 : decide (a < 0) = false := decide_eq_false (by omega)
    have t1 : decide (1099511627776 < a) = false := decide_eq_false (by omega)
    have HR := Lib.hid hr
    cases h1 : l.find? (isR c o) with
    | some r =>
      have HG1 : Hid (Km.kget (tEnts l) (c, o) = some (.agg #[.int .i64 r.num, .int .i64 r.den])) := Lib.hid (by rw [kget_find, h1]; rfl)
      have HRO : Hid (rateOf l c o = some r) := Lib.hid (by rw [rateOf, h1])
      have hm := List.mem_of_find?_eq_some h1
      have HSC0 := Lib.hid (fun W => scale_of r a (HT.out.ok r hm) (HT.out.fit r hm) (by omega) (by omega) W)
      clear hr h1 hm
      by_cases hcl : ceilq a r.num r.den ≤ 1099511627776
      · have HQ0 := Lib.hid (dutyP_some HR.out HRO.out hcl)
        have HSC := HSC0
        rw [scaleV, if_pos hcl] at HSC
        generalize ceilq a r.num r.den = C at *
        clear hcl
        have HQ := Lib.hid (HQ0.out)
        go_enter Try.func13, Try.ntmps13
        go_wp2_with (first
          | ((with_reducible refine Km.wpl_got (l := tEnts l) (key := (c, o)) ?_ ?_ ?_ Try.underlying69 rowKeyed rowEnc_inj (rat_zero _) HK.out HND.out HY1.out HG1.out ?_); rfl; rfl; rfl)
          | ((with_reducible refine (HSC.out _).mono ?_); rintro e w2 ⟨rfl, hb2⟩; have HB2 : Hid (Below w.heap.size w w2) := Lib.hid (by first | exact below_then (one_below _ _) hb2 | exact below_then (((one_below _ _).setCell (Nat.le_refl _) _).setCell (Nat.le_refl _) _) hb2); clear hb2)
          | fail)
        go_ret2
        exact retW HQ.out (HB2.out.alloc HB2.out.size _)
      · have HQ0 := Lib.hid (dutyP_big HR.out HRO.out hcl)
        have HSC := HSC0
        rw [scaleV, if_neg hcl] at HSC
        clear hcl
        have HQ := Lib.hid (HQ0.out)
        go_enter Try.func13, Try.ntmps13
        go_wp2_with (first
          | ((with_reducible refine Km.wpl_got (l := tEnts l) (key := (c, o)) ?_ ?_ ?_ Try.underlying69 rowKeyed rowEnc_inj (rat_zero _) HK.out HND.out HY1.out HG1.out ?_); rfl; rfl; rfl)
          | ((with_reducible refine (HSC.out _).mono ?_); rintro e w2 ⟨rfl, hb2⟩; have HB2 : Hid (Below w.heap.size w w2) := Lib.hid (by first | exact below_then (one_below _ _) hb2 | exact below_then (((one_below _ _).setCell (Nat.le_refl _) _).setCell (Nat.le_refl _) _) hb2); clear hb2)
          | fail)
        go_ret2
        exact retW HQ.out (HB2.out.alloc HB2.out.size _)
    | none =>
      have HG1 : Hid (Km.kget (tEnts l) (c, o) = none) := Lib.hid (by rw [kget_find, h1]; rfl)
      cases h2 : l.find? (isR c ⟨#[]⟩) with
      | some r =>
        have HG2 : Hid (Km.kget (tEnts l) (c, ⟨#[]⟩) = some (.agg #[.int .i64 r.num, .int .i64 r.den])) := Lib.hid (by rw [kget_find, h2]; rfl)
        have HRO : Hid (rateOf l c o = some r) := Lib.hid (by rw [rateOf, h1]; exact h2)
        have hm := List.mem_of_find?_eq_some h2
        have HSC0 := Lib.hid (fun W => scale_of r a (HT.out.ok r hm) (HT.out.fit r hm) (by omega) (by omega) W)
        clear hr h1 h2 hm
        by_cases hcl : ceilq a r.num r.den ≤ 1099511627776
        · have HQ0 := Lib.hid (dutyP_some HR.out HRO.out hcl)
          have HSC := HSC0
          rw [scaleV, if_pos hcl] at HSC
          generalize ceilq a r.num r.den = C at *
          clear hcl
          have HQ := Lib.hid (HQ0.out)
          go_enter Try.func13, Try.ntmps13
          go_wp2_with (first
            | ((with_reducible refine Km.wpl_miss (l := tEnts l) (key := (c, o)) ?_ ?_ ?_ Try.underlying69 rowKeyed rowEnc_inj (rat_zero _) HK.out HND.out HY1.out HG1.out ?_); rfl; rfl; rfl)
            | ((with_reducible refine Km.wpl_got (l := tEnts l) (key := (c, ⟨#[]⟩)) ?_ ?_ ?_ Try.underlying69 rowKeyed rowEnc_inj (rat_zero _) (HK.out.same (Below.heap_alloc _ _ _ HK.out.lt)) HND.out HY2.out HG2.out ?_); rfl; rfl; rfl)
            | ((with_reducible refine (HSC.out _).mono ?_); rintro e w2 ⟨rfl, hb2⟩; have HB2 : Hid (Below w.heap.size w w2) := Lib.hid (by first | exact below_then (one_below _ _) hb2 | exact below_then (((one_below _ _).setCell (Nat.le_refl _) _).setCell (Nat.le_refl _) _) hb2); clear hb2)
            | fail)
          go_ret2
          exact retW HQ.out (HB2.out.alloc HB2.out.size _)
        · have HQ0 := Lib.hid (dutyP_big HR.out HRO.out hcl)
          have HSC := HSC0
          rw [scaleV, if_neg hcl] at HSC
          clear hcl
          have HQ := Lib.hid (HQ0.out)
          go_enter Try.func13, Try.ntmps13
          go_wp2_with (first
            | ((with_reducible refine Km.wpl_miss (l := tEnts l) (key := (c, o)) ?_ ?_ ?_ Try.underlying69 rowKeyed rowEnc_inj (rat_zero _) HK.out HND.out HY1.out HG1.out ?_); rfl; rfl; rfl)
            | ((with_reducible refine Km.wpl_got (l := tEnts l) (key := (c, ⟨#[]⟩)) ?_ ?_ ?_ Try.underlying69 rowKeyed rowEnc_inj (rat_zero _) (HK.out.same (Below.heap_alloc _ _ _ HK.out.lt)) HND.out HY2.out HG2.out ?_); rfl; rfl; rfl)
            | ((with_reducible refine (HSC.out _).mono ?_); rintro e w2 ⟨rfl, hb2⟩; have HB2 : Hid (Below w.heap.size w w2) := Lib.hid (by first | exact below_then (one_below _ _) hb2 | exact below_then (((one_below _ _).setCell (Nat.le_refl _) _).setCell (Nat.le_refl _) _) hb2); clear hb2)
            | fail)
          go_ret2
          exact retW HQ.out (HB2.out.alloc HB2.out.size _)
      | none =>
        have HG2 : Hid (Km.kget (tEnts l) (c, ⟨#[]⟩) = none) := Lib.hid (by rw [kget_find, h2]; rfl)
        have HRO : Hid (rateOf l c o = none) := Lib.hid (by rw [rateOf, h1]; exact h2)
        clear hr h1 h2
        have HQ := Lib.hid (dutyP_none HR.out HRO.out)
        go_enter Try.func13, Try.ntmps13
        go_wp2_with (first
          | ((with_reducible refine Km.wpl_miss (l := tEnts l) (key := (c, o)) ?_ ?_ ?_ Try.underlying69 rowKeyed rowEnc_inj (rat_zero _) HK.out HND.out HY1.out HG1.out ?_); rfl; rfl; rfl)
          | ((with_reducible refine Km.wpl_miss (l := tEnts l) (key := (c, ⟨#[]⟩)) ?_ ?_ ?_ Try.underlying69 rowKeyed rowEnc_inj (rat_zero _) (HK.out.same (Below.heap_alloc _ _ _ HK.out.lt)) HND.out HY2.out HG2.out ?_); rfl; rfl; rfl)
          | fail)
        go_ret2
        exact retW HQ.out (one_below _ _)
theorem nonempty {s : ByteArray} (h : ¬ s = ⟨#[]⟩) : s.toList.isEmpty = false := by
  have := str_no h
  rw [ByteArray.toList_eq (bs := ⟨#[]⟩)] at this
  cases hs : s.toList with
  | nil => rw [hs] at this; exact absurd this (by decide)
  | cons a r => rfl
set_option maxHeartbeats 8000000 in
theorem refDuty_any (l : List Rt) (v : Value) (c o : ByteArray) (a : Int) (w : World) (hs : Sl w 5 v (l.map Rt.row)) (hok : ∀ r ∈ l, r.ok = true) (hf : ∀ r ∈ l, r.fit) :
    Calls Try.prog 14 #[v, .string c, .int .i64 a, .string o] w (Ret w (dutyW (dutyP l c o a))) := by
  have hll : l.length ≤ 9223372036854775807 := by have := hs.len_le; simp only [List.length_map, maxLen] at this; omega
  obtain ⟨a0, c0, rfl⟩ : ∃ a c, v = .slice a l.length c := by simpa using hs.shape
  have HS := Lib.hid hs
  have HOK := Lib.hid hok
  have HF := Lib.hid hf
  have tm : decide ((-1 : Int) < 0) = true := by decide
  have HFE : Hid (∀ W, Below w.heap.size w W → Calls Try.prog 33 #[.slice a0 l.length c0, .string c, .string ⟨#[]⟩] W (Ret W (.int .i64 (fAt c ⟨#[]⟩ 0 l)))) := Lib.hid (fun W hW => find_any l c ⟨#[]⟩ _ W (HS.out.below hW (Nat.le_refl _)))
  have HFO : Hid (∀ W, Below w.heap.size w W → Calls Try.prog 33 #[.slice a0 l.length c0, .string c, .string o] W (Ret W (.int .i64 (fAt c o 0 l)))) := Lib.hid (fun W hW => find_any l c o _ W (HS.out.below hW (Nat.le_refl _)))
  clear hs hok hf
  by_cases hr : a < 0 ∨ 1099511627776 < a
  · have HQ := Lib.hid (dutyP_out (l := l) (c := c) (o := o) hr)
    by_cases h0 : a < 0
    · have t0 : decide (a < 0) = true := decide_eq_true h0
      clear hr h0
      go_enter Try.func14, Try.ntmps14
      go_wp2_with fail
      go_ret2
      exact retW HQ.out (Below.refl _ _)
    · have t0 : decide (a < 0) = false := decide_eq_false h0
      have t1 : decide (1099511627776 < a) = true := decide_eq_true (by omega)
      clear hr h0
      go_enter Try.func14, Try.ntmps14
      go_wp2_with fail
      go_ret2
      exact retW HQ.out (Below.refl _ _)
  · have t0 : decide (a < 0) = false := decide_eq_false (by omega)
    have t1 : decide (1099511627776 < a) = false := decide_eq_false (by omega)
    have HR := Lib.hid hr
    by_cases ho : o = ⟨#[]⟩
    · subst ho
      have te : (⟨#[]⟩ : ByteArray).toList.isEmpty = true := by rw [ByteArray.toList_eq]; rfl
      have hro : rateOf l c ⟨#[]⟩ = l.find? (isR c ⟨#[]⟩) := by unfold rateOf; cases l.find? (isR c ⟨#[]⟩) <;> rfl
      rcases fAt_find c ⟨#[]⟩ l 0 with ⟨g1, g2⟩ | ⟨j, hj, g1, g2⟩
      · rw [g1] at HFE
        have HRO : Hid (rateOf l c ⟨#[]⟩ = none) := Lib.hid (hro.trans g2)
        clear g1 g2 hr
        have HQ := Lib.hid (dutyP_none HR.out HRO.out)
        go_enter Try.func14, Try.ntmps14
        go_wp2_with (first
          | ((with_reducible refine (HFE.out _ (by first | exact Below.refl _ _ | exact HB2.out)).mono ?_); rintro e w2 ⟨rfl, hb2⟩; have HB2 : Hid (Below w.heap.size w w2) := Lib.hid (by first | exact hb2 | exact HB2.out.trans (hb2.mono HB2.out.size)); first | (have e3 := (hcc w2 HB2.out).1; have e4 := (hcc w2 HB2.out).2) | skip; clear hb2)
          | fail)
        go_ret2
        exact retW HQ.out HB2.out
      · rw [g1, Nat.zero_add] at HFE
        have HRO : Hid (rateOf l c ⟨#[]⟩ = some l[j]) := Lib.hid (hro.trans g2)
        clear g1 g2
        obtain ⟨b, off, rfl, -, hb, hc⟩ := HS.out.at (i := j) (by simpa using hj)
        have hcc : ∀ W, Below w.heap.size w W → W.cell? ⟨b, off + j * 5 + 3, none⟩ = some (.int .i64 l[j].num) ∧ W.cell? ⟨b, off + j * 5 + 4, none⟩ = some (.int .i64 l[j].den) := fun W hW => ⟨(hW.cell (p := ⟨b, off + j * 5 + 3, none⟩) hb).trans (hc j l[j].row (by simp [hj]) 3 _ rfl), (hW.cell (p := ⟨b, off + j * 5 + 4, none⟩) hb).trans (hc j l[j].row (by simp [hj]) 4 _ rfl)⟩
        have tj : decide ((j : Int) < 0) = false := decide_eq_false (by omega)
        have HSC0 := Lib.hid (fun W => refScale_of l[j] a (HOK.out _ (List.getElem_mem hj)) (HF.out _ (List.getElem_mem hj)) (by omega) (by omega) W)
        clear hc hr
        generalize l[j] = r at *
        by_cases hcl : ceilq a r.num r.den ≤ 1099511627776
        · have HQ0 := Lib.hid (dutyP_some HR.out HRO.out hcl)
          have HSC := HSC0
          rw [scaleV, if_pos hcl] at HSC
          generalize ceilq a r.num r.den = C at *
          clear hcl
          have HQ := Lib.hid (HQ0.out)
          go_enter Try.func14, Try.ntmps14
          go_wp2_with (first
            | ((with_reducible refine (HFE.out _ (by first | exact Below.refl _ _ | exact HB2.out)).mono ?_); rintro e w2 ⟨rfl, hb2⟩; have HB2 : Hid (Below w.heap.size w w2) := Lib.hid (by first | exact hb2 | exact HB2.out.trans (hb2.mono HB2.out.size)); first | (have e3 := (hcc w2 HB2.out).1; have e4 := (hcc w2 HB2.out).2) | skip; clear hb2)
            | ((with_reducible refine (HSC.out _).mono ?_); rintro e w3 ⟨rfl, hb3⟩; have HB3 : Hid (Below w.heap.size w w3) := Lib.hid (HB2.out.trans (hb3.mono HB2.out.size)); clear hb3)
            | fail)
          go_ret2
          exact retW HQ.out (HB3.out.alloc HB3.out.size _)
        · have HQ0 := Lib.hid (dutyP_big HR.out HRO.out hcl)
          have HSC := HSC0
          rw [scaleV, if_neg hcl] at HSC
          clear hcl
          have HQ := Lib.hid (HQ0.out)
          go_enter Try.func14, Try.ntmps14
          go_wp2_with (first
            | ((with_reducible refine (HFE.out _ (by first | exact Below.refl _ _ | exact HB2.out)).mono ?_); rintro e w2 ⟨rfl, hb2⟩; have HB2 : Hid (Below w.heap.size w w2) := Lib.hid (by first | exact hb2 | exact HB2.out.trans (hb2.mono HB2.out.size)); first | (have e3 := (hcc w2 HB2.out).1; have e4 := (hcc w2 HB2.out).2) | skip; clear hb2)
            | ((with_reducible refine (HSC.out _).mono ?_); rintro e w3 ⟨rfl, hb3⟩; have HB3 : Hid (Below w.heap.size w w3) := Lib.hid (HB2.out.trans (hb3.mono HB2.out.size)); clear hb3)
            | fail)
          go_ret2
          exact retW HQ.out (HB3.out.alloc HB3.out.size _)
    · have te : o.toList.isEmpty = false := nonempty ho
      rcases fAt_find c o l 0 with ⟨g3, g4⟩ | ⟨j, hj, g3, g4⟩
      · rw [g3] at HFO
        have hro : rateOf l c o = l.find? (isR c ⟨#[]⟩) := by rw [rateOf, g4]
        clear g3 g4 ho
        rcases fAt_find c ⟨#[]⟩ l 0 with ⟨g1, g2⟩ | ⟨j, hj, g1, g2⟩
        · rw [g1] at HFE
          have HRO : Hid (rateOf l c o = none) := Lib.hid (hro.trans g2)
          clear g1 g2 hr
          have HQ := Lib.hid (dutyP_none HR.out HRO.out)
          go_enter Try.func14, Try.ntmps14
          go_wp2_with (first
            | ((with_reducible refine (HFO.out _ (by first | exact Below.refl _ _ | exact HB2.out)).mono ?_); rintro e w2 ⟨rfl, hb2⟩; have HB2 : Hid (Below w.heap.size w w2) := Lib.hid (by first | exact hb2 | exact HB2.out.trans (hb2.mono HB2.out.size)); first | (have e3 := (hcc w2 HB2.out).1; have e4 := (hcc w2 HB2.out).2) | skip; clear hb2)
            | ((with_reducible refine (HFE.out _ (by first | exact Below.refl _ _ | exact HB2.out)).mono ?_); rintro e w2 ⟨rfl, hb2⟩; have HB2 : Hid (Below w.heap.size w w2) := Lib.hid (by first | exact hb2 | exact HB2.out.trans (hb2.mono HB2.out.size)); first | (have e3 := (hcc w2 HB2.out).1; have e4 := (hcc w2 HB2.out).2) | skip; clear hb2)
            | fail)
          go_ret2
          exact retW HQ.out HB2.out
        · rw [g1, Nat.zero_add] at HFE
          have HRO : Hid (rateOf l c o = some l[j]) := Lib.hid (hro.trans g2)
          clear g1 g2
          obtain ⟨b, off, rfl, -, hb, hc⟩ := HS.out.at (i := j) (by simpa using hj)
          have hcc : ∀ W, Below w.heap.size w W → W.cell? ⟨b, off + j * 5 + 3, none⟩ = some (.int .i64 l[j].num) ∧ W.cell? ⟨b, off + j * 5 + 4, none⟩ = some (.int .i64 l[j].den) := fun W hW => ⟨(hW.cell (p := ⟨b, off + j * 5 + 3, none⟩) hb).trans (hc j l[j].row (by simp [hj]) 3 _ rfl), (hW.cell (p := ⟨b, off + j * 5 + 4, none⟩) hb).trans (hc j l[j].row (by simp [hj]) 4 _ rfl)⟩
          have tj : decide ((j : Int) < 0) = false := decide_eq_false (by omega)
          have HSC0 := Lib.hid (fun W => refScale_of l[j] a (HOK.out _ (List.getElem_mem hj)) (HF.out _ (List.getElem_mem hj)) (by omega) (by omega) W)
          clear hc hr
          generalize l[j] = r at *
          by_cases hcl : ceilq a r.num r.den ≤ 1099511627776
          · have HQ0 := Lib.hid (dutyP_some HR.out HRO.out hcl)
            have HSC := HSC0
            rw [scaleV, if_pos hcl] at HSC
            generalize ceilq a r.num r.den = C at *
            clear hcl
            have HQ := Lib.hid (HQ0.out)
            go_enter Try.func14, Try.ntmps14
            go_wp2_with (first
              | ((with_reducible refine (HFO.out _ (by first | exact Below.refl _ _ | exact HB2.out)).mono ?_); rintro e w2 ⟨rfl, hb2⟩; have HB2 : Hid (Below w.heap.size w w2) := Lib.hid (by first | exact hb2 | exact HB2.out.trans (hb2.mono HB2.out.size)); first | (have e3 := (hcc w2 HB2.out).1; have e4 := (hcc w2 HB2.out).2) | skip; clear hb2)
              | ((with_reducible refine (HFE.out _ (by first | exact Below.refl _ _ | exact HB2.out)).mono ?_); rintro e w2 ⟨rfl, hb2⟩; have HB2 : Hid (Below w.heap.size w w2) := Lib.hid (by first | exact hb2 | exact HB2.out.trans (hb2.mono HB2.out.size)); first | (have e3 := (hcc w2 HB2.out).1; have e4 := (hcc w2 HB2.out).2) | skip; clear hb2)
              | ((with_reducible refine (HSC.out _).mono ?_); rintro e w3 ⟨rfl, hb3⟩; have HB3 : Hid (Below w.heap.size w w3) := Lib.hid (HB2.out.trans (hb3.mono HB2.out.size)); clear hb3)
              | fail)
            go_ret2
            exact retW HQ.out (HB3.out.alloc HB3.out.size _)
          · have HQ0 := Lib.hid (dutyP_big HR.out HRO.out hcl)
            have HSC := HSC0
            rw [scaleV, if_neg hcl] at HSC
            clear hcl
            have HQ := Lib.hid (HQ0.out)
            go_enter Try.func14, Try.ntmps14
            go_wp2_with (first
              | ((with_reducible refine (HFO.out _ (by first | exact Below.refl _ _ | exact HB2.out)).mono ?_); rintro e w2 ⟨rfl, hb2⟩; have HB2 : Hid (Below w.heap.size w w2) := Lib.hid (by first | exact hb2 | exact HB2.out.trans (hb2.mono HB2.out.size)); first | (have e3 := (hcc w2 HB2.out).1; have e4 := (hcc w2 HB2.out).2) | skip; clear hb2)
              | ((with_reducible refine (HFE.out _ (by first | exact Below.refl _ _ | exact HB2.out)).mono ?_); rintro e w2 ⟨rfl, hb2⟩; have HB2 : Hid (Below w.heap.size w w2) := Lib.hid (by first | exact hb2 | exact HB2.out.trans (hb2.mono HB2.out.size)); first | (have e3 := (hcc w2 HB2.out).1; have e4 := (hcc w2 HB2.out).2) | skip; clear hb2)
              | ((with_reducible refine (HSC.out _).mono ?_); rintro e w3 ⟨rfl, hb3⟩; have HB3 : Hid (Below w.heap.size w w3) := Lib.hid (HB2.out.trans (hb3.mono HB2.out.size)); clear hb3)
              | fail)
            go_ret2
            exact retW HQ.out (HB3.out.alloc HB3.out.size _)
      · rw [g3, Nat.zero_add] at HFO
        have HRO : Hid (rateOf l c o = some l[j]) := Lib.hid (by rw [rateOf, g4])
        clear g3 g4 ho
        obtain ⟨b, off, rfl, -, hb, hc⟩ := HS.out.at (i := j) (by simpa using hj)
        have hcc : ∀ W, Below w.heap.size w W → W.cell? ⟨b, off + j * 5 + 3, none⟩ = some (.int .i64 l[j].num) ∧ W.cell? ⟨b, off + j * 5 + 4, none⟩ = some (.int .i64 l[j].den) := fun W hW => ⟨(hW.cell (p := ⟨b, off + j * 5 + 3, none⟩) hb).trans (hc j l[j].row (by simp [hj]) 3 _ rfl), (hW.cell (p := ⟨b, off + j * 5 + 4, none⟩) hb).trans (hc j l[j].row (by simp [hj]) 4 _ rfl)⟩
        have tj : decide ((j : Int) < 0) = false := decide_eq_false (by omega)
        have HSC0 := Lib.hid (fun W => refScale_of l[j] a (HOK.out _ (List.getElem_mem hj)) (HF.out _ (List.getElem_mem hj)) (by omega) (by omega) W)
        clear hc hr
        generalize l[j] = r at *
        by_cases hcl : ceilq a r.num r.den ≤ 1099511627776
        · have HQ0 := Lib.hid (dutyP_some HR.out HRO.out hcl)
          have HSC := HSC0
          rw [scaleV, if_pos hcl] at HSC
          generalize ceilq a r.num r.den = C at *
          clear hcl
          have HQ := Lib.hid (HQ0.out)
          go_enter Try.func14, Try.ntmps14
          go_wp2_with (first
            | ((with_reducible refine (HFO.out _ (by first | exact Below.refl _ _ | exact HB2.out)).mono ?_); rintro e w2 ⟨rfl, hb2⟩; have HB2 : Hid (Below w.heap.size w w2) := Lib.hid (by first | exact hb2 | exact HB2.out.trans (hb2.mono HB2.out.size)); first | (have e3 := (hcc w2 HB2.out).1; have e4 := (hcc w2 HB2.out).2) | skip; clear hb2)
            | ((with_reducible refine (HSC.out _).mono ?_); rintro e w3 ⟨rfl, hb3⟩; have HB3 : Hid (Below w.heap.size w w3) := Lib.hid (HB2.out.trans (hb3.mono HB2.out.size)); clear hb3)
            | fail)
          go_ret2
          exact retW HQ.out (HB3.out.alloc HB3.out.size _)
        · have HQ0 := Lib.hid (dutyP_big HR.out HRO.out hcl)
          have HSC := HSC0
          rw [scaleV, if_neg hcl] at HSC
          clear hcl
          have HQ := Lib.hid (HQ0.out)
          go_enter Try.func14, Try.ntmps14
          go_wp2_with (first
            | ((with_reducible refine (HFO.out _ (by first | exact Below.refl _ _ | exact HB2.out)).mono ?_); rintro e w2 ⟨rfl, hb2⟩; have HB2 : Hid (Below w.heap.size w w2) := Lib.hid (by first | exact hb2 | exact HB2.out.trans (hb2.mono HB2.out.size)); first | (have e3 := (hcc w2 HB2.out).1; have e4 := (hcc w2 HB2.out).2) | skip; clear hb2)
            | ((with_reducible refine (HSC.out _).mono ?_); rintro e w3 ⟨rfl, hb3⟩; have HB3 : Hid (Below w.heap.size w w3) := Lib.hid (HB2.out.trans (hb3.mono HB2.out.size)); clear hb3)
            | fail)
          go_ret2
          exact retW HQ.out (HB3.out.alloc HB3.out.size _)
end Go.Proofs.Ytehlhfcaajhhaaa.Sc
