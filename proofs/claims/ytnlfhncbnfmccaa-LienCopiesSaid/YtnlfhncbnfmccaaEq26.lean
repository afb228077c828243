/- Are two rows of pledges, of entries, one: by the reference. -/
import Derived.Test.YtnlfhncbnfmccaaPayA26
import Derived.Test.YtnlfhncbnfmccaaStepPl26
import Derived.BigQuiet
namespace Go.Proofs.Ytnlfhncbnfmccaa.Sc
open Go Go.RowKit Go.ChangeShapes Go.WideShapes Go.ChangeAt
set_option maxRecDepth 100000

instance decPg : DecidableEq Pg := fun x y => decidable_of_iff (x.thing = y.thing ∧ x.debtor = y.debtor ∧ x.cred = y.cred ∧ x.day = y.day ∧ x.amt = y.amt ∧ x.held = y.held) (by
  obtain ⟨a, b, c, d, e, f⟩ := x
  obtain ⟨a', b', c', d', e', f'⟩ := y
  simp)
def PgEq (x y : Pg) : Bool := x.thing.toList == y.thing.toList && (x.debtor.toList == y.debtor.toList && (x.cred.toList == y.cred.toList && (x.day == y.day && (x.amt == y.amt && x.held == y.held))))
theorem pgEq_iff (x y : Pg) : PgEq x y = decide (x = y) := by
  obtain ⟨a, b, c, d, e, f⟩ := x
  obtain ⟨a', b', c', d', e', f'⟩ := y
  simp only [PgEq, str_beq, Pg.mk.injEq]
  by_cases h0 : a = a' <;> by_cases h1 : b = b' <;> by_cases h2 : c = c' <;> by_cases h3 : d = d' <;> by_cases h4 : e = e' <;> by_cases h5 : f = f' <;> simp [h0, h1, h2, h3, h4, h5]
theorem pgEq_yes {x y : Pg} (h : x = y) : PgEq x y = true := by rw [pgEq_iff, decide_eq_true h]
theorem pgEq_no {x y : Pg} (h : ¬ x = y) : PgEq x y = false := by rw [pgEq_iff, decide_eq_false h]
theorem pgHeld : Try.prog.stoodInHeld 37 = false := by kernel_rfl
theorem pgGuard : Try.prog.eqGuardType Try.prog.depth 37 = false := by kernel_rfl
theorem pgStruct : Try.prog.underlying 37 = some (.struct (Try.prog.fieldsOf 37)) := by kernel_rfl
set_option maxHeartbeats 2000000 in
theorem run_neq_pg (w : World) (x y : Pg) : (binOp .neq 37 (.agg x.cells) (.agg y.cells)).run Try.prog w = .ok (.bool (!PgEq x y)) w := by
  rw [run_neq_struct, run_equalIn_agg w 9999 _ _ _ pgStruct pgHeld]
  unfold Pg.cells
  go_simp
  unfold PgEq
  by_cases h0 : x.thing.toList = y.thing.toList <;> by_cases h1 : x.debtor.toList = y.debtor.toList <;> by_cases h2 : x.cred.toList = y.cred.toList <;> by_cases h3 : x.day = y.day <;> by_cases h4 : x.amt = y.amt <;> by_cases h5 : x.held = y.held <;> simp [h0, h1, h2, h3, h4, h5]
set_option maxRecDepth 5000 in
set_option maxHeartbeats 1000000 in
theorem refSameP_any (l m : List Pg) (v u : Value) (w : World) (hs : Sl w 6 v (l.map Pg.row)) (hu : Sl w 6 u (m.map Pg.row)) :
    Calls Try.prog 15 #[v, u] w (RetB w (decide (l = m))) := by
  have hml : l.length ≤ 9223372036854775807 := by have := hs.len_le; simp only [List.length_map, maxLen] at this; omega
  have hmm : m.length ≤ 9223372036854775807 := by have := hu.len_le; simp only [List.length_map, maxLen] at this; omega
  obtain ⟨a, c, rfl⟩ : ∃ a c, v = .slice a l.length c := by simpa using hs.shape
  obtain ⟨a', c', rfl⟩ : ∃ a c, u = .slice a m.length c := by simpa using hu.shape
  have HSL := Lib.hid hs
  have HSM := Lib.hid hu
  clear hs hu
  by_cases hlm : l.length = m.length
  · have t0 : ((l.length : Int) != (m.length : Int)) = false := by simp [hlm]
    have HLM := Lib.hid hlm
    clear hlm
    go_enter Try.func15, Try.ntmps15
    go_wp2_with fail
    clear t0
    go_loopw [5] (fun i wr => ∃ k : Nat, k ≤ l.length ∧ i = .int .i64 k ∧ decide (l = m) = decide (l.drop k = m.drop k) ∧ Below w.heap.size w wr) (fun i _ => l.length - (intOf i).toNat)
    case atStart => exact ⟨0, Nat.zero_le _, rfl, rfl, Below.refl _ _⟩
    case round =>
      obtain ⟨k, hk, rfl, hrel, hbel⟩ := hrel
      by_cases hlt : k < l.length
      · have hlt' : k < m.length := by have := HLM.out; omega
        obtain ⟨b, off, rfl, -, hb, hc⟩ := HSL.out.at (i := k) (by simpa using hlt)
        obtain ⟨b', off', rfl, -, hb', hc'⟩ := HSM.out.at (i := k) (by simpa using hlt')
        have d0 := (hbel.cell (p := ⟨b, off + k * 6, none⟩) hb).trans (hc k (Pg.row l[k]) (by simp [hlt]) 0 _ rfl)
        have e0 := (hbel.cell (p := ⟨b', off' + k * 6, none⟩) hb').trans (hc' k (Pg.row m[k]) (by simp [hlt']) 0 _ rfl)
        have d1 := (hbel.cell (p := ⟨b, off + k * 6 + 1, none⟩) hb).trans (hc k (Pg.row l[k]) (by simp [hlt]) 1 _ rfl)
        have e1 := (hbel.cell (p := ⟨b', off' + k * 6 + 1, none⟩) hb').trans (hc' k (Pg.row m[k]) (by simp [hlt']) 1 _ rfl)
        have d2 := (hbel.cell (p := ⟨b, off + k * 6 + 2, none⟩) hb).trans (hc k (Pg.row l[k]) (by simp [hlt]) 2 _ rfl)
        have e2 := (hbel.cell (p := ⟨b', off' + k * 6 + 2, none⟩) hb').trans (hc' k (Pg.row m[k]) (by simp [hlt']) 2 _ rfl)
        have d3 := (hbel.cell (p := ⟨b, off + k * 6 + 3, none⟩) hb).trans (hc k (Pg.row l[k]) (by simp [hlt]) 3 _ rfl)
        have e3 := (hbel.cell (p := ⟨b', off' + k * 6 + 3, none⟩) hb').trans (hc' k (Pg.row m[k]) (by simp [hlt']) 3 _ rfl)
        have d4 := (hbel.cell (p := ⟨b, off + k * 6 + 4, none⟩) hb).trans (hc k (Pg.row l[k]) (by simp [hlt]) 4 _ rfl)
        have e4 := (hbel.cell (p := ⟨b', off' + k * 6 + 4, none⟩) hb').trans (hc' k (Pg.row m[k]) (by simp [hlt']) 4 _ rfl)
        have d5 := (hbel.cell (p := ⟨b, off + k * 6 + 5, none⟩) hb).trans (hc k (Pg.row l[k]) (by simp [hlt]) 5 _ rfl)
        have e5 := (hbel.cell (p := ⟨b', off' + k * 6 + 5, none⟩) hb').trans (hc' k (Pg.row m[k]) (by simp [hlt']) 5 _ rfl)
        rw [List.drop_eq_getElem_cons hlt, List.drop_eq_getElem_cons hlt'] at hrel
        have HR := Lib.hid hrel
        clear hrel hc hc'
        generalize l[k] = x at *
        generalize m[k] = y at *
        by_cases heq : x = y
        · have HEQ := Lib.hid heq
          have t1 : PgEq x y = true := pgEq_yes heq
          have t2 := fun w => run_neq_pg w x y
          unfold Pg.cells at t2
          have t3 := pgGuard
          clear heq
          go_wp2_with fail
          go_quiet (fail)
          go_wp2_with fail
          go_roundw
          case rel => exact ⟨k + 1, by omega, by go_num, by rw [HR.out, HEQ.out]; simp, below_drewN hbel _⟩
          case measure => simp [intOf]; omega
        · have HEQ := Lib.hid heq
          have t1 : PgEq x y = false := pgEq_no heq
          have t2 := fun w => run_neq_pg w x y
          unfold Pg.cells at t2
          have t3 := pgGuard
          clear heq
          go_wp2_with fail
          go_quiet (fail)
          go_wp2_with fail
          go_ret
          exact retB (by rw [HR.out]; simp [HEQ.out]) (below_drewN hbel _)
      · have HR := Lib.hid hrel
        clear hrel
        go_wp2_with fail
        go_ret
        exact retB (by rw [HR.out, List.drop_eq_nil_of_le (by omega), List.drop_eq_nil_of_le (by have := HLM.out; omega)]; rfl) hbel
  · have t0 : ((l.length : Int) != (m.length : Int)) = true := by simp; omega
    have HLM := Lib.hid hlm
    clear hlm
    go_enter Try.func15, Try.ntmps15
    go_wp2_with fail
    go_ret
    exact retB (by symm; exact decide_eq_false fun h => HLM.out (by rw [h])) (Below.refl _ _)

abbrev En := ByteArray × Int
def entC (p : En) : Array Value := #[.string p.1, .string ⟨#[]⟩, .int .i64 p.2]
def EnEq (x y : En) : Bool := x.1.toList == y.1.toList && x.2 == y.2
theorem enEq_iff (x y : En) : EnEq x y = decide (x = y) := by
  obtain ⟨a, b⟩ := x
  obtain ⟨a', b'⟩ := y
  simp only [EnEq, str_beq, Prod.mk.injEq]
  rw [Bool.eq_iff_iff]
  simp
theorem enEq_yes {x y : En} (h : x = y) : EnEq x y = true := by rw [enEq_iff, decide_eq_true h]
theorem enEq_no {x y : En} (h : ¬ x = y) : EnEq x y = false := by rw [enEq_iff, decide_eq_false h]
theorem enHeld : Try.prog.stoodInHeld 35 = false := by kernel_rfl
theorem enGuard : Try.prog.eqGuardType Try.prog.depth 35 = false := by kernel_rfl
theorem enStruct : Try.prog.underlying 35 = some (.struct (Try.prog.fieldsOf 35)) := by kernel_rfl
theorem run_neq_en (w : World) (x y : En) : (binOp .neq 35 (.agg (entC x)) (.agg (entC y))).run Try.prog w = .ok (.bool (!EnEq x y)) w := by
  rw [run_neq_struct, run_equalIn_agg w 9999 _ _ _ enStruct enHeld]
  unfold entC
  go_simp
  unfold EnEq
  by_cases h0 : x.1.toList = y.1.toList <;> by_cases h1 : x.2 = y.2 <;> simp [h0, h1]
set_option maxRecDepth 5000 in
set_option maxHeartbeats 1000000 in
theorem refEntries_any (l m : List En) (v u : Value) (w : World) (hs : Sl w 3 v (l.map entRow)) (hu : Sl w 3 u (m.map entRow)) :
    Calls Try.prog 41 #[v, u] w (RetB w (decide (l = m))) := by
  have hml : l.length ≤ 9223372036854775807 := by have := hs.len_le; simp only [List.length_map, maxLen] at this; omega
  have hmm : m.length ≤ 9223372036854775807 := by have := hu.len_le; simp only [List.length_map, maxLen] at this; omega
  obtain ⟨a, c, rfl⟩ : ∃ a c, v = .slice a l.length c := by simpa using hs.shape
  obtain ⟨a', c', rfl⟩ : ∃ a c, u = .slice a m.length c := by simpa using hu.shape
  have HSL := Lib.hid hs
  have HSM := Lib.hid hu
  clear hs hu
  by_cases hlm : l.length = m.length
  · have t0 : ((l.length : Int) != (m.length : Int)) = false := by simp [hlm]
    have HLM := Lib.hid hlm
    clear hlm
    go_enter Try.func41, Try.ntmps41
    go_wp2_with fail
    clear t0
    go_loopw [5] (fun i wr => ∃ k : Nat, k ≤ l.length ∧ i = .int .i64 k ∧ decide (l = m) = decide (l.drop k = m.drop k) ∧ Below w.heap.size w wr) (fun i _ => l.length - (intOf i).toNat)
    case atStart => exact ⟨0, Nat.zero_le _, rfl, rfl, Below.refl _ _⟩
    case round =>
      obtain ⟨k, hk, rfl, hrel, hbel⟩ := hrel
      by_cases hlt : k < l.length
      · have hlt' : k < m.length := by have := HLM.out; omega
        obtain ⟨b, off, rfl, -, hb, hc⟩ := HSL.out.at (i := k) (by simpa using hlt)
        obtain ⟨b', off', rfl, -, hb', hc'⟩ := HSM.out.at (i := k) (by simpa using hlt')
        have d0 := (hbel.cell (p := ⟨b, off + k * 3, none⟩) hb).trans (hc k (entRow l[k]) (by simp [hlt]) 0 _ rfl)
        have e0 := (hbel.cell (p := ⟨b', off' + k * 3, none⟩) hb').trans (hc' k (entRow m[k]) (by simp [hlt']) 0 _ rfl)
        have d1 := (hbel.cell (p := ⟨b, off + k * 3 + 1, none⟩) hb).trans (hc k (entRow l[k]) (by simp [hlt]) 1 _ rfl)
        have e1 := (hbel.cell (p := ⟨b', off' + k * 3 + 1, none⟩) hb').trans (hc' k (entRow m[k]) (by simp [hlt']) 1 _ rfl)
        have d2 := (hbel.cell (p := ⟨b, off + k * 3 + 2, none⟩) hb).trans (hc k (entRow l[k]) (by simp [hlt]) 2 _ rfl)
        have e2 := (hbel.cell (p := ⟨b', off' + k * 3 + 2, none⟩) hb').trans (hc' k (entRow m[k]) (by simp [hlt']) 2 _ rfl)
        rw [List.drop_eq_getElem_cons hlt, List.drop_eq_getElem_cons hlt'] at hrel
        have HR := Lib.hid hrel
        clear hrel hc hc'
        generalize l[k] = x at *
        generalize m[k] = y at *
        by_cases heq : x = y
        · have HEQ := Lib.hid heq
          have t1 : EnEq x y = true := enEq_yes heq
          have t2 := fun w => run_neq_en w x y
          unfold entC at t2
          have t3 := enGuard
          clear heq
          go_wp2_with fail
          go_quiet (fail)
          go_wp2_with fail
          go_roundw
          case rel => exact ⟨k + 1, by omega, by go_num, by rw [HR.out, HEQ.out]; simp, below_drewN hbel _⟩
          case measure => simp [intOf]; omega
        · have HEQ := Lib.hid heq
          have t1 : EnEq x y = false := enEq_no heq
          have t2 := fun w => run_neq_en w x y
          unfold entC at t2
          have t3 := enGuard
          clear heq
          go_wp2_with fail
          go_quiet (fail)
          go_wp2_with fail
          go_ret
          exact retB (by rw [HR.out]; simp [HEQ.out]) (below_drewN hbel _)
      · have HR := Lib.hid hrel
        clear hrel
        go_wp2_with fail
        go_ret
        exact retB (by rw [HR.out, List.drop_eq_nil_of_le (by omega), List.drop_eq_nil_of_le (by have := HLM.out; omega)]; rfl) hbel
  · have t0 : ((l.length : Int) != (m.length : Int)) = true := by simp; omega
    have HLM := Lib.hid hlm
    clear hlm
    go_enter Try.func41, Try.ntmps41
    go_wp2_with fail
    go_ret
    exact retB (by symm; exact decide_eq_false fun h => HLM.out (by rw [h])) (Below.refl _ _)

end Go.Proofs.Ytnlfhncbnfmccaa.Sc
