/- The kinds that may happen next, of the program and of the reference. -/
import Derived.Test.YtjabjfkfoenmlaaDoP34
import Derived.Test.YtjabjfkfoenmlaaDoR34
namespace Go.Proofs.Ytjabjfkfoenmlaa.Sc
open Go Go.RowKit Go.ChangeShapes Go.WideShapes Go.ChangeAt
set_option maxRecDepth 100000

theorem infoInt : (Try.prog.info? 3).map (fun i => (i.zero, i.size, i.bytes)) = some (some (.int .i64 0), 1, 8) := by kernel_rfl
def inRow (n : Int) : List Value := [.int .i64 n]
def inCells (l : List Int) : List Value := l.map (Value.int .i64)
theorem inCells_flat (l : List Int) : inCells l = (l.map inRow).flatten := by
  induction l with
  | nil => rfl
  | cons a r ih => simp only [inCells, List.map_cons, List.flatten_cons, inRow, List.singleton_append] at *; rw [ih]
theorem in_rows (l : List Int) : ∀ r ∈ l.map inRow, r.length = 1 := by
  intro r hr
  obtain ⟨d, _, rfl⟩ := List.mem_map.1 hr
  rfl
theorem own_ints {w : World} {B n : Nat} {v : Value} {l : List Int} (h : w.ownsRow B 3 1 v n (inCells l)) (hn : n = l.length) : Sl w 1 v (l.map inRow) := by
  rw [inCells_flat] at h
  exact own_sl h (by simpa using hn) (in_rows l)
theorem int_one (n : Int) : ∀ u ∈ (#[Value.int .i64 n] : Array Value).toList, u.oneCell' = true := by
  intro u hu
  simp only [List.mem_singleton] at hu
  subst hu; rfl
theorem push_below {w wr w1 : World} {e : TypeId} {sz n : Nat} {v : Value} {xs : List Value} (hbel : Below w.heap.size w wr) (hown : wr.ownsRow w.heap.size e sz v n xs) (hg : wr.grownBy w1 v.ownBlock) : Below w.heap.size w w1 :=
  hbel.grown hg hbel.size (fun k hk => (hown.lt k hk).1)

/-- The kinds below k that may happen. -/
def Lf.nextsTo (l : Lf) (k : Nat) : List Int := ((List.range k).filter fun (i : Nat) => l.can (i : Int)).map fun (i : Nat) => (i : Int)
def Lf.nexts (l : Lf) : List Int := l.nextsTo 8
theorem nextsTo_succ (l : Lf) (k : Nat) : l.nextsTo (k + 1) = l.nextsTo k ++ if l.can (k : Int) then [(k : Int)] else [] := by
  unfold Lf.nextsTo
  rw [List.range_succ, List.filter_append, List.map_append]
  congr 1
  simp only [List.filter_cons, List.filter_nil]
  split <;> rfl
theorem nextsTo_len (l : Lf) (k : Nat) : (l.nextsTo k).length ≤ k := by
  unfold Lf.nextsTo
  rw [List.length_map]
  exact Nat.le_trans (List.length_filter_le _ _) (by simp)

theorem rule_one (k : Int) (p q : Nat) : (ruleRow k p q).all (fun x => x.oneCell') = true := by
  unfold ruleRow thenV
  repeat' split
  all_goals simp [fnV, toV, Value.oneCell']
set_option maxHeartbeats 2000000 in
theorem next_any (bk : Nat) (l : Lf) (F : Nat → Prop) (w : World) (h : Lv w 74 F bk l) (s0 : 0 ≤ l.st) (s7 : l.st ≤ 7) :
    Calls Try.prog 26 #[.pointer (some ⟨bk, 0, none⟩)] w (RetRow w 3 1 l.nexts.length (inCells l.nexts)) := by
  obtain ⟨i0, hi, hz, hsz, hby⟩ := info_parts infoInt
  have HI := Lib.hid (And.intro hi (And.intro hz (And.intro hsz hby)))
  clear hi hz hsz hby
  have HLV := Lib.hid h
  have HST := Lib.hid (And.intro s0 s7)
  clear h s0 s7
  go_enter Try.func26, Try.ntmps26
  go_wp2_with fail
  refine (rules_any _).mono ?_
  rintro e w1 ⟨p, q, rfl, hb1, _, _, _, _⟩
  have HB1 := Lib.hid hb1
  clear hb1
  go_wp2_with fail
  go_loopw [3, 4, 5, 7] (fun o _ _ i wr => ∃ k : Nat, k ≤ 8 ∧ i = .int .i64 k ∧ wr.ownsRow w.heap.size 3 1 o (l.nextsTo k).length (inCells (l.nextsTo k)) ∧ Below w.heap.size w wr) (fun _ _ _ i _ => 8 - (intOf i).toNat)
  case atStart => exact ⟨0, by omega, rfl, World.ownsRow_nil _ _ _ _, HB1.out⟩
  case round =>
    obtain ⟨k, hk, rfl, hown, hbel⟩ := hrel
    have HOWN := Lib.hid hown
    have HBEL := Lib.hid hbel
    clear hown
    by_cases hlt : k < 8
    · have hx := rule_index (k : Int) p q (by omega) (by omega)
      have HZ : Hid ((wr.alloc (.cells #[.int .i64 0, .nilFunc, .nilFunc, .nilFunc] 80)).heap[wr.heap.size]? = some (.cells #[.int .i64 0, .nilFunc, .nilFunc, .nilFunc] 80 (0, 0))) := Lib.hid (heap_alloc_new _ _)
      have HR : Hid ((wr.alloc (.cells (ruleRow (k : Int) p q) 80)).heap[wr.heap.size]? = some (.cells (ruleRow (k : Int) p q) 80 (0, 0))) := Lib.hid (heap_alloc_new _ _)
      have HO := Lib.hid (one_below wr (.cells (ruleRow (k : Int) p q) 80))
      have SH : Hid (Calls Try.prog 37 #[.agg (ruleRow (k : Int) p q), .pointer (some ⟨bk, 0, none⟩)] (wr.alloc (.cells (ruleRow (k : Int) p q) 80)) (RetB (wr.alloc (.cells (ruleRow (k : Int) p q) 80)) (l.can (k : Int)))) := Lib.hid (by
        obtain ⟨vp, ve, hw⟩ := (HLV.out.below hbel).below HO.out
        exact holds_any (k : Int) (by omega) (by omega) p q bk l vp ve _ hw.box HST.out.1 HST.out.2)
      have HN := Lib.hid (nextsTo_succ l k)
      have HONE := Lib.hid (rule_one (k : Int) p q)
      have HL : Hid ((l.nextsTo k).length + 1 ≤ maxLen ∧ ((l.nextsTo k).length + 1) * 8 ≤ 140737488355328 ∧ w.heap.size ≤ wr.heap.size) := Lib.hid (by have h1 := nextsTo_len l k; have h2 := hbel.size; simp only [maxLen]; omega)
      have hk8 : (k : Int) < 8 := by omega
      clear hbel
      cases hc : l.can (k : Int)
      · rw [hc] at SH HN
        clear hc
        go_wp2_with (first
          | (refine wpList_store_row (P := Try.prog) rfl 80 (.tmp 5) (.tmp 10) rfl wr.heap.size (ruleRow (k : Int) p q) rfl rfl _ #[.int .i64 0, .nilFunc, .nilFunc, .nilFunc] HZ.out (by kernel_rfl) rfl HONE.out ?_; rw [setRow_new])
          | (refine wpList_load_row (P := Try.prog) rfl 80 (.tmp 5) rfl wr.heap.size rfl _ _ _ _ HR.out Try.underlying80 rfl (by kernel_rfl) ?_)
          | ((with_reducible refine SH.out.mono ?_); rintro e w2 ⟨rfl, hb2⟩; have HB2 := Lib.hid (HBEL.out.trans ((below_then HO.out hb2).mono HBEL.out.size)); have HO2 := Lib.hid (ownsRow_below HOWN.out (below_then HO.out hb2)); clear hb2)
          | fail)
        go_roundw
        case rel => exact ⟨k + 1, by omega, by go_num, by rw [HN.out]; simpa using HO2.out, HB2.out⟩
        case measure => simp [intOf]; omega
      · rw [hc] at SH HN
        clear hc
        go_wp2_with (first
          | (refine wpList_store_row (P := Try.prog) rfl 80 (.tmp 5) (.tmp 10) rfl wr.heap.size (ruleRow (k : Int) p q) rfl rfl _ #[.int .i64 0, .nilFunc, .nilFunc, .nilFunc] HZ.out (by kernel_rfl) rfl HONE.out ?_; rw [setRow_new])
          | (refine wpList_load_row (P := Try.prog) rfl 80 (.tmp 5) rfl wr.heap.size rfl _ _ _ _ HR.out Try.underlying80 rfl (by kernel_rfl) ?_)
          | ((with_reducible refine SH.out.mono ?_); rintro e w2 ⟨rfl, hb2⟩; have HB2 := Lib.hid (HBEL.out.trans ((below_then HO.out hb2).mono HBEL.out.size)); have HO2 := Lib.hid (ownsRow_below HOWN.out (below_then HO.out hb2)); have HL2 := Lib.hid (And.intro HL.out.1 (And.intro HL.out.2.1 (Nat.le_trans HL.out.2.2 (below_then HO.out hb2).size))); clear hb2)
          | ((with_reducible refine Any.wpl_push ?_ ?_ ?_ Try.underlying57 HI.out.1 HI.out.2.1 HI.out.2.2.1 HI.out.2.2.2 ?_ (by decide) ?_ (int_one (k : Int)) (HO2.out) HL2.out.1 HL2.out.2.1 HL2.out.2.2 ?_); rfl; rfl; rfl; rfl; rfl; intro v3 w3 hown3 hgrow3 hwho3)
          | fail)
        have HB3 := Lib.hid (push_below HB2.out HO2.out hgrow3)
        have HO3 := Lib.hid hown3
        clear hown3 hgrow3 hwho3
        go_roundw
        case rel => exact ⟨k + 1, by omega, by go_num, by rw [HN.out, List.length_append]; simpa [inCells] using HO3.out, HB3.out⟩
        case measure => simp [intOf]; omega
    · obtain rfl : k = 8 := by omega
      go_wp2_with fail
      go_ret
      exact ⟨_, rfl, HOWN.out, hbel⟩

set_option maxHeartbeats 2000000 in
theorem refNext_any (bk : Nat) (l : Lf) (F : Nat → Prop) (w : World) (h : Lv w 65 F bk l) (hf : l.fit) :
    Calls Try.prog 49 #[.pointer (some ⟨bk, 0, none⟩)] w (RetRow w 3 1 l.nexts.length (inCells l.nexts)) := by
  obtain ⟨i0, hi, hz, hsz, hby⟩ := info_parts infoInt
  have HI := Lib.hid (And.intro hi (And.intro hz (And.intro hsz hby)))
  clear hi hz hsz hby
  have HLV := Lib.hid h
  have HFIT := Lib.hid hf
  clear h hf
  go_enter Try.func49, Try.ntmps49
  go_wp2_with fail
  go_loopw [3, 4] (fun o i wr => ∃ k : Nat, k ≤ 8 ∧ i = .int .i64 k ∧ wr.ownsRow w.heap.size 3 1 o (l.nextsTo k).length (inCells (l.nextsTo k)) ∧ Below w.heap.size w wr) (fun _ i _ => 8 - (intOf i).toNat)
  case atStart => exact ⟨0, by omega, rfl, own_empty (Nat.le_refl _), one_below _ _⟩
  case round =>
    obtain ⟨k, hk, rfl, hown, hbel⟩ := hrel
    have HOWN := Lib.hid hown
    have HBEL := Lib.hid hbel
    clear hown
    by_cases hlt : k < 8
    · have SB := Lib.hid (by
        obtain ⟨vp, ve, hw⟩ := HLV.out.below hbel
        exact by_any bk l vp ve wr hw.box (k : Int) (by omega) (by omega) HFIT.out.s0 HFIT.out.s7)
      have HN := Lib.hid (nextsTo_succ l k)
      have HCB := Lib.hid (can_by l HFIT.out (k : Int) (by omega) (by omega)).1
      have HL : Hid ((l.nextsTo k).length + 1 ≤ maxLen ∧ ((l.nextsTo k).length + 1) * 8 ≤ 140737488355328 ∧ w.heap.size ≤ wr.heap.size) := Lib.hid (by have h1 := nextsTo_len l k; have h2 := hbel.size; simp only [maxLen]; omega)
      have hk8 : (k : Int) < 8 := by omega
      clear hbel
      generalize l.who (k : Int) = y at *
      cases hc : y.toList.isEmpty
      · rw [hc] at HCB
        rw [HCB.out] at HN
        clear HCB
        go_wp2_with (first
          | ((with_reducible refine SB.out.mono ?_); rintro e w2 ⟨rfl, hb2⟩; have HB2 := Lib.hid (HBEL.out.trans (hb2.mono HBEL.out.size)); have HO2 := Lib.hid (ownsRow_below HOWN.out hb2); have HL2 := Lib.hid (And.intro HL.out.1 (And.intro HL.out.2.1 (Nat.le_trans HL.out.2.2 hb2.size))); clear hb2)
          | ((with_reducible refine Any.wpl_push ?_ ?_ ?_ Try.underlying57 HI.out.1 HI.out.2.1 HI.out.2.2.1 HI.out.2.2.2 ?_ (by decide) ?_ (int_one (k : Int)) (HO2.out) HL2.out.1 HL2.out.2.1 HL2.out.2.2 ?_); rfl; rfl; rfl; rfl; rfl; intro v3 w3 hown3 hgrow3 hwho3)
          | fail)
        have HB3 := Lib.hid (push_below HB2.out HO2.out hgrow3)
        have HO3 := Lib.hid hown3
        clear hown3 hgrow3 hwho3
        go_roundw
        case rel => exact ⟨k + 1, by omega, by go_num, by rw [HN.out, List.length_append]; simpa [inCells] using HO3.out, HB3.out⟩
        case measure => simp [intOf]; omega
      · rw [hc] at HCB
        rw [HCB.out] at HN
        clear HCB
        go_wp2_with (first
          | ((with_reducible refine SB.out.mono ?_); rintro e w2 ⟨rfl, hb2⟩; have HB2 := Lib.hid (HBEL.out.trans (hb2.mono HBEL.out.size)); have HO2 := Lib.hid (ownsRow_below HOWN.out hb2); clear hb2)
          | fail)
        go_roundw
        case rel => exact ⟨k + 1, by omega, by go_num, by rw [HN.out]; simpa using HO2.out, HB2.out⟩
        case measure => simp [intOf]; omega
    · obtain rfl : k = 8 := by omega
      go_wp2_with fail
      go_ret
      exact ⟨_, rfl, HOWN.out, hbel⟩
end Go.Proofs.Ytjabjfkfoenmlaa.Sc
