/- Awards that are one; Right. -/
import Derived.Test.YtbigoifpfkdkjaaGreatAwd4
import Derived.Laws.StructEq
import Derived.ChangeMaps5
import Derived.BigQuiet
namespace Go.Proofs.YtbigoifpfkdkjaaGreat.Sc
open Go Go.RowKit Go.ChangeShapes Go.WideShapes Go.ChangeAt
set_option maxRecDepth 100000

instance decAw : DecidableEq Awd := fun x y => decidable_of_iff (x.tg = y.tg ∧ x.nm = y.nm) (by cases x; cases y; simp)
def AwEq (x y : Awd) : Bool := x.tg.toList == y.tg.toList && x.nm.toList == y.nm.toList
theorem awEq_iff (x y : Awd) : AwEq x y = decide (x = y) := by
  obtain ⟨a, b⟩ := x
  obtain ⟨a', b'⟩ := y
  simp only [AwEq, str_beq, Awd.mk.injEq]
  rw [Bool.eq_iff_iff]
  simp
theorem awEq_yes {x y : Awd} (h : x = y) : AwEq x y = true := by rw [awEq_iff, decide_eq_true h]
theorem awEq_no {x y : Awd} (h : ¬ x = y) : AwEq x y = false := by rw [awEq_iff, decide_eq_false h]
theorem awHeld : Tryz.prog.stoodInHeld 40 = false := by kernel_rfl
theorem awGuard : Tryz.prog.eqGuardType Tryz.prog.depth 40 = false := by kernel_rfl
theorem awStruct : Tryz.prog.underlying 40 = some (.struct (Tryz.prog.fieldsOf 40)) := by kernel_rfl
theorem run_neq_aw (w : World) (x y : Awd) : (binOp .neq 40 (.agg x.cells) (.agg y.cells)).run Tryz.prog w = .ok (.bool (!AwEq x y)) w := by
  rw [run_neq_struct, run_equalIn_agg w 9999 _ _ _ awStruct awHeld]
  unfold Awd.cells
  go_simp
  unfold AwEq
  by_cases h0 : x.tg.toList = y.tg.toList <;> by_cases h1 : x.nm.toList = y.nm.toList <;> simp [h0, h1]
theorem run_eql_aw (w : World) (x y : Awd) : (binOp .eql 40 (.agg x.cells) (.agg y.cells)).run Tryz.prog w = .ok (.bool (AwEq x y)) w := by
  rw [run_eql_struct, run_equalIn_agg w 9999 _ _ _ awStruct awHeld]
  unfold Awd.cells
  go_simp
  unfold AwEq
  by_cases h0 : x.tg.toList = y.tg.toList <;> by_cases h1 : x.nm.toList = y.nm.toList <;> simp [h0, h1]
set_option maxRecDepth 5000 in
set_option maxHeartbeats 1000000 in
theorem equalAw_any (l m : List Awd) (v u : Value) (w : World) (hs : Sl w 2 v (l.map Awd.row)) (hu : Sl w 2 u (m.map Awd.row)) :
    Calls Tryz.prog 25 #[v, u] w (RetB w (decide (l = m))) := by
  have hml : l.length ≤ 9223372036854775807 := by have := hs.len_le; simp only [List.length_map, maxLen] at this; omega
  have hmm : m.length ≤ 9223372036854775807 := by have := hu.len_le; simp only [List.length_map, maxLen] at this; omega
  obtain ⟨a, c, rfl⟩ : ∃ a c, v = .slice a l.length c := by simpa using hs.shape
  obtain ⟨a', c', rfl⟩ : ∃ a c, u = .slice a m.length c := by simpa using hu.shape
  have HSL := Lib.hid hs
  have HSM := Lib.hid hu
  clear hs hu
  by_cases hlm : l.length = m.length
  · have t0 : ((l.length : Int) != (m.length : Int)) = false := by simp [hlm]
    have HLM := Lib.hid hlm
    clear hlm
    go_enter Tryz.func25, Tryz.ntmps25
    go_wp2_with fail
    clear t0
    go_loopw [5, 13] (fun _ i wr => ∃ k : Nat, k ≤ l.length ∧ i = .int .i64 k ∧ decide (l = m) = decide (l.drop k = m.drop k) ∧ Below w.heap.size w wr) (fun _ i _ => l.length - (intOf i).toNat)
    case atStart => exact ⟨0, Nat.zero_le _, rfl, rfl, Below.refl _ _⟩
    case round =>
      obtain ⟨k, hk, rfl, hrel, hbel⟩ := hrel
      by_cases hlt : k < l.length
      · have hlt' : k < m.length := by have := HLM.out; omega
        obtain ⟨b, off, rfl, -, hb, hc⟩ := HSL.out.at (i := k) (by simpa using hlt)
        obtain ⟨b', off', rfl, -, hb', hc'⟩ := HSM.out.at (i := k) (by simpa using hlt')
        have d0 := (hbel.cell (p := ⟨b, off + k * 2, none⟩) hb).trans (hc k (Awd.row l[k]) (by simp [hlt]) 0 _ rfl)
        have e0 := (hbel.cell (p := ⟨b', off' + k * 2, none⟩) hb').trans (hc' k (Awd.row m[k]) (by simp [hlt']) 0 _ rfl)
        have d1 := (hbel.cell (p := ⟨b, off + k * 2 + 1, none⟩) hb).trans (hc k (Awd.row l[k]) (by simp [hlt]) 1 _ rfl)
        have e1 := (hbel.cell (p := ⟨b', off' + k * 2 + 1, none⟩) hb').trans (hc' k (Awd.row m[k]) (by simp [hlt']) 1 _ rfl)
        rw [List.drop_eq_getElem_cons hlt, List.drop_eq_getElem_cons hlt'] at hrel
        have HR := Lib.hid hrel
        clear hrel hc hc'
        generalize l[k] = x at *
        generalize m[k] = y at *
        by_cases heq : x = y
        · have HEQ := Lib.hid heq
          have t1 : AwEq x y = true := awEq_yes heq
          have t2 := fun w => run_neq_aw w x y
          unfold Awd.cells at t2
          have t3 := awGuard
          clear heq
          go_wp2_with fail
          go_quiet (fail)
          go_wp2_with fail
          go_roundw
          case rel => exact ⟨k + 1, by omega, by go_num, by rw [HR.out, HEQ.out]; simp, below_drewN hbel _⟩
          case measure => simp [intOf]; omega
        · have HEQ := Lib.hid heq
          have t1 : AwEq x y = false := awEq_no heq
          have t2 := fun w => run_neq_aw w x y
          unfold Awd.cells at t2
          have t3 := awGuard
          clear heq
          go_wp2_with fail
          go_quiet (fail)
          go_wp2_with fail
          go_ret
          exact retB (by rw [HR.out]; simp [HEQ.out]) (below_drewN hbel _)
      · have HR := Lib.hid hrel
        clear hrel
        go_wp2_with fail
        go_ret
        exact retB (by rw [HR.out, List.drop_eq_nil_of_le (by omega), List.drop_eq_nil_of_le (by have := HLM.out; omega)]; rfl) hbel
  · have t0 : ((l.length : Int) != (m.length : Int)) = true := by simp; omega
    have HLM := Lib.hid hlm
    clear hlm
    go_enter Tryz.func25, Tryz.ntmps25
    go_wp2_with fail
    go_ret
    exact retB (by symm; exact decide_eq_false fun h => HLM.out (by rw [h])) (Below.refl _ _)
set_option maxHeartbeats 1000000 in
theorem right_dis (l : List Clm) (v : Value) (m : List Awd) (u : Value) (w : World) (hs : Sl w 5 v (l.map Clm.row)) (hu : Sl w 2 u (m.map Awd.row)) (hok : ∀ x ∈ l, ClmOk x) (htg : ∀ x ∈ l, x.tg = thingB) (hl : l.length ≤ 4096) :
    Calls Tryz.prog 9 #[v, u] w (RetB w (decide (awdC (bestC l) = m))) := by
  have HA := Lib.hid (award_any l v w hs hok htg hl)
  have HU := Lib.hid hu
  have HE := Lib.hid (fun v1 W h1 h2 => equalAw_any (awdC (bestC l)) m v1 u W h1 h2)
  clear hs hu hok htg hl
  go_enter Tryz.func9, Tryz.ntmps9
  go_wp2_with (first
    | ((with_reducible refine HA.out.mono ?_); rintro e w1 ⟨v1, rfl, ho1, hb1⟩; have HO1 := Lib.hid (own_awds ho1 rfl); have HB1 := Lib.hid hb1; have HU1 := Lib.hid (HU.out.below hb1 (Nat.le_refl _)); clear ho1 hb1)
    | ((with_reducible refine (HE.out v1 w1 HO1.out HU1.out).mono ?_); rintro e w2 ⟨rfl, hb2⟩; have HB2 := Lib.hid (HB1.out.trans (hb2.mono HB1.out.size)); clear hb2)
    | fail)
  go_ret
  exact retB rfl HB2.out
end Go.Proofs.YtbigoifpfkdkjaaGreat.Sc
