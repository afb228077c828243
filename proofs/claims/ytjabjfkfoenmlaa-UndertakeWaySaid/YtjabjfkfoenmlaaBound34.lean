/- Who is bound, of the program and of the reference; rows that are one. -/
import Derived.Test.YtjabjfkfoenmlaaSim34
import Derived.Test.YtjabjfkfoenmlaaSortS
import Derived.Test.YtjabjfkfoenmlaaNext34
import Derived.Laws.StructEq
import Derived.StillTailTactics
namespace Go.Proofs.Ytjabjfkfoenmlaa.Sc
open Go Go.RowKit Go.ChangeShapes Go.WideShapes Go.ChangeAt
set_option maxRecDepth 100000

set_option maxRecDepth 5000 in
set_option maxHeartbeats 1000000 in
theorem refTexts26_any (l m : List ByteArray) (v u : Value) (w : World) (hs : Sl w 1 v (l.map stRow)) (hu : Sl w 1 u (m.map stRow)) :
    Calls Try.prog 45 #[v, u] w (RetB w (decide (l = m))) := by
  have hml : l.length ≤ 9223372036854775807 := by have := hs.len_le; simp only [List.length_map, maxLen] at this; omega
  have hmm : m.length ≤ 9223372036854775807 := by have := hu.len_le; simp only [List.length_map, maxLen] at this; omega
  obtain ⟨a, c, rfl⟩ : ∃ a c, v = .slice a l.length c := by simpa using hs.shape
  obtain ⟨a', c', rfl⟩ : ∃ a c, u = .slice a m.length c := by simpa using hu.shape
  have HSL := Lib.hid hs
  have HSM := Lib.hid hu
  clear hs hu
  by_cases hlm : l.length = m.length
  · have t0 : ((l.length : Int) != (m.length : Int)) = false := by simp [hlm]
    have HLM := Lib.hid hlm
    clear hlm
    go_enter Try.func45, Try.ntmps45
    go_wp2_with fail
    clear t0
    go_loopw [5] (fun i wr => ∃ k : Nat, k ≤ l.length ∧ i = .int .i64 k ∧ decide (l = m) = decide (l.drop k = m.drop k) ∧ Below w.heap.size w wr) (fun i _ => l.length - (intOf i).toNat)
    case atStart => exact ⟨0, Nat.zero_le _, rfl, rfl, Below.refl _ _⟩
    case round =>
      obtain ⟨k, hk, rfl, hrel, hbel⟩ := hrel
      by_cases hlt : k < l.length
      · have hlt' : k < m.length := by have := HLM.out; omega
        obtain ⟨b, off, rfl, -, hb, hc⟩ := HSL.out.at (i := k) (by simpa using hlt)
        obtain ⟨b', off', rfl, -, hb', hc'⟩ := HSM.out.at (i := k) (by simpa using hlt')
        have d0 := (hbel.cell (p := ⟨b, off + k * 1, none⟩) hb).trans (hc k (stRow l[k]) (by simp [hlt]) 0 _ rfl)
        have e0 := (hbel.cell (p := ⟨b', off' + k * 1, none⟩) hb').trans (hc' k (stRow m[k]) (by simp [hlt']) 0 _ rfl)
        rw [Nat.mul_one] at d0 e0
        rw [List.drop_eq_getElem_cons hlt, List.drop_eq_getElem_cons hlt'] at hrel
        have HR := Lib.hid hrel
        clear hrel hc hc'
        generalize l[k] = x at *
        generalize m[k] = y at *
        by_cases heq : x = y
        · have HEQ := Lib.hid heq
          have t1 := str_yes heq
          clear heq
          go_wp2_with fail
          go_quiet (fail)
          go_wp2_with fail
          go_roundw
          case rel => exact ⟨k + 1, by omega, by go_num, by rw [HR.out, HEQ.out]; simp, below_drewN hbel _⟩
          case measure => simp [intOf]; omega
        · have HEQ := Lib.hid heq
          have t1 := str_no heq
          clear heq
          go_wp2_with fail
          go_quiet (fail)
          go_wp2_with fail
          go_ret
          exact retB (by rw [HR.out]; simp [HEQ.out]) (below_drewN hbel _)
      · have HR := Lib.hid hrel
        clear hrel
        go_wp2_with fail
        go_ret
        exact retB (by rw [HR.out, List.drop_eq_nil_of_le (by omega), List.drop_eq_nil_of_le (by have := HLM.out; omega)]; rfl) hbel
  · have t0 : ((l.length : Int) != (m.length : Int)) = true := by simp; omega
    have HLM := Lib.hid hlm
    clear hlm
    go_enter Try.func45, Try.ntmps45
    go_wp2_with fail
    go_ret
    exact retB (by symm; exact decide_eq_false fun h => HLM.out (by rw [h])) (Below.refl _ _)


set_option maxRecDepth 5000 in
set_option maxHeartbeats 1000000 in
theorem refSame02_any (l m : List Int) (v u : Value) (w : World) (hs : Sl w 1 v (l.map inRow)) (hu : Sl w 1 u (m.map inRow)) :
    Calls Try.prog 48 #[v, u] w (RetB w (decide (l = m))) := by
  have hml : l.length ≤ 9223372036854775807 := by have := hs.len_le; simp only [List.length_map, maxLen] at this; omega
  have hmm : m.length ≤ 9223372036854775807 := by have := hu.len_le; simp only [List.length_map, maxLen] at this; omega
  obtain ⟨a, c, rfl⟩ : ∃ a c, v = .slice a l.length c := by simpa using hs.shape
  obtain ⟨a', c', rfl⟩ : ∃ a c, u = .slice a m.length c := by simpa using hu.shape
  have HSL := Lib.hid hs
  have HSM := Lib.hid hu
  clear hs hu
  by_cases hlm : l.length = m.length
  · have t0 : ((l.length : Int) != (m.length : Int)) = false := by simp [hlm]
    have HLM := Lib.hid hlm
    clear hlm
    go_enter Try.func48, Try.ntmps48
    go_wp2_with fail
    clear t0
    go_loopw [5] (fun i wr => ∃ k : Nat, k ≤ l.length ∧ i = .int .i64 k ∧ decide (l = m) = decide (l.drop k = m.drop k) ∧ Below w.heap.size w wr) (fun i _ => l.length - (intOf i).toNat)
    case atStart => exact ⟨0, Nat.zero_le _, rfl, rfl, Below.refl _ _⟩
    case round =>
      obtain ⟨k, hk, rfl, hrel, hbel⟩ := hrel
      by_cases hlt : k < l.length
      · have hlt' : k < m.length := by have := HLM.out; omega
        obtain ⟨b, off, rfl, -, hb, hc⟩ := HSL.out.at (i := k) (by simpa using hlt)
        obtain ⟨b', off', rfl, -, hb', hc'⟩ := HSM.out.at (i := k) (by simpa using hlt')
        have d0 := (hbel.cell (p := ⟨b, off + k * 1, none⟩) hb).trans (hc k (inRow l[k]) (by simp [hlt]) 0 _ rfl)
        have e0 := (hbel.cell (p := ⟨b', off' + k * 1, none⟩) hb').trans (hc' k (inRow m[k]) (by simp [hlt']) 0 _ rfl)
        rw [Nat.mul_one] at d0 e0
        rw [List.drop_eq_getElem_cons hlt, List.drop_eq_getElem_cons hlt'] at hrel
        have HR := Lib.hid hrel
        clear hrel hc hc'
        generalize l[k] = x at *
        generalize m[k] = y at *
        by_cases heq : x = y
        · have HEQ := Lib.hid heq
          have t1 : (x != y) = false := by simp [heq]
          clear heq
          go_wp2_with fail
          go_quiet (fail)
          go_wp2_with fail
          go_roundw
          case rel => exact ⟨k + 1, by omega, by go_num, by rw [HR.out, HEQ.out]; simp, below_drewN hbel _⟩
          case measure => simp [intOf]; omega
        · have HEQ := Lib.hid heq
          have t1 : (x != y) = true := by simp [heq]
          clear heq
          go_wp2_with fail
          go_quiet (fail)
          go_wp2_with fail
          go_ret
          exact retB (by rw [HR.out]; simp [HEQ.out]) (below_drewN hbel _)
      · have HR := Lib.hid hrel
        clear hrel
        go_wp2_with fail
        go_ret
        exact retB (by rw [HR.out, List.drop_eq_nil_of_le (by omega), List.drop_eq_nil_of_le (by have := HLM.out; omega)]; rfl) hbel
  · have t0 : ((l.length : Int) != (m.length : Int)) = true := by simp; omega
    have HLM := Lib.hid hlm
    clear hlm
    go_enter Try.func48, Try.ntmps48
    go_wp2_with fail
    go_ret
    exact retB (by symm; exact decide_eq_false fun h => HLM.out (by rw [h])) (Below.refl _ _)


def EvEq (x y : Ev) : Bool := (x.kind == y.kind && (x.party.toList == y.party.toList && (x.day == y.day && x.amt == y.amt)))
theorem evEq_iff (x y : Ev) : EvEq x y = decide (x = y) := by
  obtain ⟨a, b, c, d⟩ := x
  obtain ⟨a', b', c', d'⟩ := y
  simp only [EvEq, str_beq, Ev.mk.injEq]
  rw [Bool.eq_iff_iff]
  simp
theorem evEq_yes {x y : Ev} (h : x = y) : EvEq x y = true := by rw [evEq_iff, decide_eq_true h]
theorem evEq_no {x y : Ev} (h : ¬ x = y) : EvEq x y = false := by rw [evEq_iff, decide_eq_false h]
theorem evHeld : Try.prog.stoodInHeld 40 = false := by kernel_rfl
theorem evGuard : Try.prog.eqGuardType Try.prog.depth 40 = false := by kernel_rfl
theorem evStruct : Try.prog.underlying 40 = some (.struct (Try.prog.fieldsOf 40)) := by kernel_rfl
theorem run_neq_ev (w : World) (x y : Ev) : (binOp .neq 40 (.agg x.cells) (.agg y.cells)).run Try.prog w = .ok (.bool (!EvEq x y)) w := by
  rw [run_neq_struct, run_equalIn_agg w 9999 _ _ _ evStruct evHeld]
  unfold Ev.cells
  go_simp
  unfold EvEq
  by_cases h0 : x.kind = y.kind <;> by_cases h1 : x.party.toList = y.party.toList <;> by_cases h2 : x.day = y.day <;> by_cases h3 : x.amt = y.amt <;> simp [h0, h1, h2, h3]

set_option maxRecDepth 5000 in
set_option maxHeartbeats 1000000 in
theorem refSame34_any (l m : List Ev) (v u : Value) (w : World) (hs : Sl w 4 v (l.map Ev.row)) (hu : Sl w 4 u (m.map Ev.row)) :
    Calls Try.prog 22 #[v, u] w (RetB w (decide (l = m))) := by
  have hml : l.length ≤ 9223372036854775807 := by have := hs.len_le; simp only [List.length_map, maxLen] at this; omega
  have hmm : m.length ≤ 9223372036854775807 := by have := hu.len_le; simp only [List.length_map, maxLen] at this; omega
  obtain ⟨a, c, rfl⟩ : ∃ a c, v = .slice a l.length c := by simpa using hs.shape
  obtain ⟨a', c', rfl⟩ : ∃ a c, u = .slice a m.length c := by simpa using hu.shape
  have HSL := Lib.hid hs
  have HSM := Lib.hid hu
  clear hs hu
  by_cases hlm : l.length = m.length
  · have t0 : ((l.length : Int) != (m.length : Int)) = false := by simp [hlm]
    have HLM := Lib.hid hlm
    clear hlm
    go_enter Try.func22, Try.ntmps22
    go_wp2_with fail
    clear t0
    go_loopw [5] (fun i wr => ∃ k : Nat, k ≤ l.length ∧ i = .int .i64 k ∧ decide (l = m) = decide (l.drop k = m.drop k) ∧ Below w.heap.size w wr) (fun i _ => l.length - (intOf i).toNat)
    case atStart => exact ⟨0, Nat.zero_le _, rfl, rfl, Below.refl _ _⟩
    case round =>
      obtain ⟨k, hk, rfl, hrel, hbel⟩ := hrel
      by_cases hlt : k < l.length
      · have hlt' : k < m.length := by have := HLM.out; omega
        obtain ⟨b, off, rfl, -, hb, hc⟩ := HSL.out.at (i := k) (by simpa using hlt)
        obtain ⟨b', off', rfl, -, hb', hc'⟩ := HSM.out.at (i := k) (by simpa using hlt')
        have d0 := (hbel.cell (p := ⟨b, off + k * 4, none⟩) hb).trans (hc k (Ev.row l[k]) (by simp [hlt]) 0 _ rfl)
        have e0 := (hbel.cell (p := ⟨b', off' + k * 4, none⟩) hb').trans (hc' k (Ev.row m[k]) (by simp [hlt']) 0 _ rfl)
        have d1 := (hbel.cell (p := ⟨b, off + k * 4 + 1, none⟩) hb).trans (hc k (Ev.row l[k]) (by simp [hlt]) 1 _ rfl)
        have e1 := (hbel.cell (p := ⟨b', off' + k * 4 + 1, none⟩) hb').trans (hc' k (Ev.row m[k]) (by simp [hlt']) 1 _ rfl)
        have d2 := (hbel.cell (p := ⟨b, off + k * 4 + 2, none⟩) hb).trans (hc k (Ev.row l[k]) (by simp [hlt]) 2 _ rfl)
        have e2 := (hbel.cell (p := ⟨b', off' + k * 4 + 2, none⟩) hb').trans (hc' k (Ev.row m[k]) (by simp [hlt']) 2 _ rfl)
        have d3 := (hbel.cell (p := ⟨b, off + k * 4 + 3, none⟩) hb).trans (hc k (Ev.row l[k]) (by simp [hlt]) 3 _ rfl)
        have e3 := (hbel.cell (p := ⟨b', off' + k * 4 + 3, none⟩) hb').trans (hc' k (Ev.row m[k]) (by simp [hlt']) 3 _ rfl)
        rw [List.drop_eq_getElem_cons hlt, List.drop_eq_getElem_cons hlt'] at hrel
        have HR := Lib.hid hrel
        clear hrel hc hc'
        generalize l[k] = x at *
        generalize m[k] = y at *
        by_cases heq : x = y
        · have HEQ := Lib.hid heq
          have t1 : EvEq x y = true := evEq_yes heq
          have t2 := fun w => run_neq_ev w x y
          unfold Ev.cells at t2
          have t3 := evGuard
          clear heq
          go_wp2_with fail
          go_quiet (fail)
          go_wp2_with fail
          go_roundw
          case rel => exact ⟨k + 1, by omega, by go_num, by rw [HR.out, HEQ.out]; simp, below_drewN hbel _⟩
          case measure => simp [intOf]; omega
        · have HEQ := Lib.hid heq
          have t1 : EvEq x y = false := evEq_no heq
          have t2 := fun w => run_neq_ev w x y
          unfold Ev.cells at t2
          have t3 := evGuard
          clear heq
          go_wp2_with fail
          go_quiet (fail)
          go_wp2_with fail
          go_ret
          exact retB (by rw [HR.out]; simp [HEQ.out]) (below_drewN hbel _)
      · have HR := Lib.hid hrel
        clear hrel
        go_wp2_with fail
        go_ret
        exact retB (by rw [HR.out, List.drop_eq_nil_of_le (by omega), List.drop_eq_nil_of_le (by have := HLM.out; omega)]; rfl) hbel
  · have t0 : ((l.length : Int) != (m.length : Int)) = true := by simp; omega
    have HLM := Lib.hid hlm
    clear hlm
    go_enter Try.func22, Try.ntmps22
    go_wp2_with fail
    go_ret
    exact retB (by symm; exact decide_eq_false fun h => HLM.out (by rw [h])) (Below.refl _ _)


/-- Who is bound, rising. -/
def Lf.bound (l : Lf) : List ByteArray := if l.st = 7 then [] else if l.cf then (if bt l.c.s4 < bt l.c.s3 then [l.c.s4, l.c.s3] else [l.c.s3, l.c.s4]) else [l.c.s3]
theorem sort_one (a : ByteArray) : sortS [a] = [a] := sortS_of (List.Perm.refl _) (by simp)
theorem sort_two (a b : ByteArray) : sortS [a, b] = if bt b < bt a then [b, a] else [a, b] := by
  split
  · rename_i h
    exact sortS_of (List.Perm.swap _ _ _) (by simpa using List.le_of_lt h)
  · rename_i h
    exact sortS_of (List.Perm.refl _) (by simpa using List.not_lt.1 h)
theorem str_eq_bt (a : ByteArray) : a.toList = bt a := by rw [ByteArray.toList_eq]; rfl
theorem own_lit {w : World} {B n : Nat} {l : List ByteArray} (hB : B ≤ w.heap.size) (hn : l.length = n) (hm : n ≤ maxLen) : (w.alloc (.cells (l.map Value.string).toArray 9)).ownsRow B 9 1 (.slice (some ⟨w.heap.size, 0, none⟩) n n) n (strCells l) :=
  ⟨by simp [strCells, hn], .inr ⟨w.heap.size, n, _, rfl, hB, heap_alloc_new _ _, Nat.le_refl _, hm, by simp [hn], by subst hn; simp only [strCells]; exact List.take_of_length_le (by simp)⟩⟩

set_option maxHeartbeats 2000000 in
theorem bound_any (bk : Nat) (l : Lf) (F : Nat → Prop) (w : World) (h : Lv w 74 F bk l) :
    Calls Try.prog 46 #[.pointer (some ⟨bk, 0, none⟩)] w (RetRow w 9 1 l.bound.length (strCells l.bound)) := by
  obtain ⟨vp, ve, hw⟩ := h
  obtain ⟨i0, hi, hz, hsz, hby⟩ := info_parts infoStr
  have HI := Lib.hid (And.intro hi (And.intro hz (And.intro hsz hby)))
  clear hi hz hsz hby
  have d18 : w.cell? ⟨bk, 18, none⟩ = some (.int .i64 l.st) := hw.box.cell 18
  by_cases h7 : l.st = 7
  · have hbd : l.bound = [] := by rw [Lf.bound, if_pos h7]
    rw [hbd]
    rw [h7] at d18
    clear h7 hbd
    go_enter Try.func46, Try.ntmps46
    go_wp2_with fail
    go_ret
    exact ⟨_, rfl, World.ownsRow_nil _ _ _ _, Below.refl _ _⟩
  · have t7 : (l.st == 7) = false := by simp [h7]
    have HBX := Lib.hid hw.box
    have d3 : w.cell? ⟨bk, 3, none⟩ = some (.string l.c.s3) := hw.box.cell 3
    have hz : bk < w.heap.size := lt_blk hw.box
    have c19 : (w.alloc (.cells #[.string l.c.s3] 9)).cell? ⟨bk, 19, none⟩ = some (.bool l.cf) := cell_blk (blk (one_below w _) hz hw.box) 19
    have HO1 : Hid ((w.alloc (.cells #[.string l.c.s3] 9)).ownsRow w.heap.size 9 1 (.slice (some ⟨w.heap.size, 0, none⟩) 1 1) 1 (strCells [l.c.s3])) := Lib.hid (own_lit (w := w) (l := [l.c.s3]) (Nat.le_refl _) rfl (by simp [maxLen]))
    have HB1 := Lib.hid (one_below w (.cells #[.string l.c.s3] 9))
    have HBD : Hid (l.bound = if l.cf then (if bt l.c.s4 < bt l.c.s3 then [l.c.s4, l.c.s3] else [l.c.s3, l.c.s4]) else [l.c.s3]) := Lib.hid (by rw [Lf.bound, if_neg h7])
    clear hw h7
    cases hc : l.cf
    · rw [hc] at c19 HBD
      have HS := Lib.hid (fun W v (h : W.ownsRow w.heap.size 9 1 v 1 (strCells [l.c.s3])) => sort_any [l.c.s3] v 1 w.heap.size W h rfl (by simp))
      clear hc
      generalize l.st = st at *
      generalize l.c.s3 = s3 at *
      go_enter Try.func46, Try.ntmps46
      go_wp2_with (first
        | ((with_reducible refine (HS.out _ _ HO1.out).mono ?_); rintro e w2 ⟨rfl, hown2, hg2⟩; have HO2 := Lib.hid hown2; have HG2 := Lib.hid hg2; clear hown2 hg2)
        | fail)
      go_ret
      have hr := HO2.out
      rw [sort_one] at hr
      rw [HBD.out]
      exact ⟨_, rfl, hr, HB1.out.grown HG2.out HB1.out.size (fun k hk => (HO1.out.lt k hk).1)⟩
    · rw [hc] at c19 HBD
      have c4 : (w.alloc (.cells #[.string l.c.s3] 9)).cell? ⟨bk, 4, none⟩ = some (.string l.c.s4) := cell_blk (blk (one_below w _) hz HBX.out) 4
      have HS := Lib.hid (fun W v (h : W.ownsRow w.heap.size 9 1 v 2 (strCells [l.c.s3, l.c.s4])) => sort_any [l.c.s3, l.c.s4] v 2 w.heap.size W h rfl (by simp))
      clear hc
      generalize l.st = st at *
      generalize l.c.s3 = s3 at *
      generalize l.c.s4 = s4 at *
      obtain ⟨w1, hw1⟩ : ∃ x, x = w.alloc (.cells #[.string s3] 9) := ⟨_, rfl⟩
      rw [← hw1] at c19 c4 HO1 HB1
      have HW1 := Lib.hid hw1
      clear hw1
      have HL : Hid (1 + 1 ≤ maxLen ∧ (1 + 1) * 16 ≤ 140737488355328 ∧ w.heap.size ≤ w1.heap.size) := Lib.hid ⟨by simp [maxLen], by omega, HB1.out.size⟩
      go_enter Try.func46, Try.ntmps46
      go_wp2_with (first
        | (rw [← HW1.out])
        | ((with_reducible refine Any.wpl_push ?_ ?_ ?_ Try.underlying41 HI.out.1 HI.out.2.1 HI.out.2.2.1 HI.out.2.2.2 ?_ (by decide) ?_ (str_one s4) (HO1.out) HL.out.1 HL.out.2.1 HL.out.2.2 ?_); rfl; rfl; rfl; rfl; rfl; intro v3 w3 hown3 hgrow3 hwho3)
        | ((with_reducible refine (HS.out _ _ (by simpa [strCells] using hown3)).mono ?_); rintro e w4 ⟨rfl, hown4, hg4⟩; have HO4 := Lib.hid hown4; have HG4 := Lib.hid hg4; have HO3 := Lib.hid hown3; have HG3 := Lib.hid hgrow3; clear hown4 hg4 hown3 hgrow3)
        | fail)
      go_ret
      have hr := HO4.out
      rw [sort_two] at hr
      rw [HBD.out]
      have hb3 := HB1.out.grown HG3.out HB1.out.size (fun k hk => (HO1.out.lt k hk).1)
      refine ⟨_, rfl, ?_, hb3.grown HG4.out hb3.size (fun k hk => (HO3.out.lt k hk).1)⟩
      have hl : (if bt s4 < bt s3 then [s4, s3] else [s3, s4]).length = 2 := by split <;> rfl
      rw [if_pos trivial, hl]
      exact hr

set_option maxHeartbeats 2000000 in
theorem refBound_any (bk : Nat) (l : Lf) (F : Nat → Prop) (w : World) (h : Lv w 65 F bk l) :
    Calls Try.prog 47 #[.pointer (some ⟨bk, 0, none⟩)] w (RetRow w 9 1 l.bound.length (strCells l.bound)) := by
  obtain ⟨vp, ve, hw⟩ := h
  have d18 : w.cell? ⟨bk, 18, none⟩ = some (.int .i64 l.st) := hw.box.cell 18
  have d19 : w.cell? ⟨bk, 19, none⟩ = some (.bool l.cf) := hw.box.cell 19
  have d3 : w.cell? ⟨bk, 3, none⟩ = some (.string l.c.s3) := hw.box.cell 3
  have d4 : w.cell? ⟨bk, 4, none⟩ = some (.string l.c.s4) := hw.box.cell 4
  clear hw
  by_cases h7 : l.st = 7
  · have hbd : l.bound = [] := by rw [Lf.bound, if_pos h7]
    rw [hbd]
    rw [h7] at d18
    clear h7 hbd
    go_enter Try.func47, Try.ntmps47
    go_wp2_with fail
    go_ret
    exact ⟨_, rfl, World.ownsRow_made w #[] 0 (Nat.le_refl _) (by simp [maxLen]) rfl, one_below _ _⟩
  · have t7 : (l.st == 7) = false := by simp [h7]
    have HBD : Hid (l.bound = if l.cf then (if bt l.c.s4 < bt l.c.s3 then [l.c.s4, l.c.s3] else [l.c.s3, l.c.s4]) else [l.c.s3]) := Lib.hid (by rw [Lf.bound, if_neg h7])
    clear h7
    cases hc : l.cf
    · rw [hc] at d19 HBD
      clear hc
      rw [HBD.out, if_neg (by simp)]
      clear HBD
      generalize l.st = st at *
      generalize l.c.s3 = s3 at *
      go_enter Try.func47, Try.ntmps47
      go_wp2_with fail
      go_ret
      exact ⟨_, rfl, own_lit (l := [s3]) (Nat.le_refl _) rfl (by simp [maxLen]), one_below _ _⟩
    · rw [hc] at d19 HBD
      clear hc
      rw [HBD.out, if_pos rfl]
      clear HBD
      have hlt : Op.bytesLess l.c.s4.toList l.c.s3.toList = decide (bt l.c.s4 < bt l.c.s3) := by rw [bytesLess_eq, str_eq_bt, str_eq_bt]
      generalize l.st = st at *
      generalize l.c.s3 = s3 at *
      generalize l.c.s4 = s4 at *
      by_cases hl : bt s4 < bt s3
      · rw [decide_eq_true hl] at hlt
        rw [if_pos hl]
        clear hl
        go_enter Try.func47, Try.ntmps47
        go_wp2_with fail
        go_quiet (fail)
        go_wp2_with fail
        obtain ⟨w5, hw5⟩ : ∃ x, x = w.drewN nq := ⟨_, rfl⟩
        have d3' : w5.cell? ⟨bk, 3, none⟩ = some (.string s3) := by rw [hw5]; exact d3
        have d4' : w5.cell? ⟨bk, 4, none⟩ = some (.string s4) := by rw [hw5]; exact d4
        have hb5 : Below w.heap.size w w5 := by rw [hw5]; exact below_drewN (Below.refl _ _) nq
        rw [← hw5]
        clear hw5 d3 d4
        go_still_tail 10, (by kernel_rfl)
        change wpList _ _ _ _ _ w5.drew
        have hbd : Below w.heap.size w w5.drew := hb5.drew
        generalize w5.drew = wd at *
        go_wp2_with fail
        go_ret
        exact ⟨_, rfl, own_lit (l := [s4, s3]) hbd.size rfl (by simp [maxLen]), hbd.alloc hbd.size _⟩
      · rw [decide_eq_false hl] at hlt
        rw [if_neg hl]
        clear hl
        go_enter Try.func47, Try.ntmps47
        go_wp2_with fail
        go_quiet (fail)
        go_wp2_with fail
        obtain ⟨w5, hw5⟩ : ∃ x, x = w.drewN nq := ⟨_, rfl⟩
        have d3' : w5.cell? ⟨bk, 3, none⟩ = some (.string s3) := by rw [hw5]; exact d3
        have d4' : w5.cell? ⟨bk, 4, none⟩ = some (.string s4) := by rw [hw5]; exact d4
        have hb5 : Below w.heap.size w w5 := by rw [hw5]; exact below_drewN (Below.refl _ _) nq
        rw [← hw5]
        clear hw5 d3 d4
        go_still_tail 10, (by kernel_rfl)
        change wpList _ _ _ _ _ w5.drew
        have hbd : Below w.heap.size w w5.drew := hb5.drew
        generalize w5.drew = wd at *
        go_wp2_with fail
        go_ret
        exact ⟨_, rfl, own_lit (l := [s3, s4]) hbd.size rfl (by simp [maxLen]), hbd.alloc hbd.size _⟩
end Go.Proofs.Ytjabjfkfoenmlaa.Sc
