/- Voyages, legs that are one: by the reference; few voyages. -/
import Derived.Test.YtbmjficiceiekaaDoorBest16
import Derived.Laws.StructEq
import Derived.BigQuiet
namespace Go.Proofs.YtbmjficiceiekaaDoor.Sc
open Go Go.RowKit Go.ChangeShapes Go.WideShapes Go.ChangeAt
set_option maxRecDepth 100000

instance decCl : DecidableEq Cl := fun x y => decidable_of_iff (x.port = y.port ∧ x.cut = y.cut ∧ x.arr = y.arr ∧ x.dep = y.dep) (by cases x; cases y; simp)
instance decLg : DecidableEq Lg := fun x y => decidable_of_iff (x.voy = y.voy ∧ x.fr = y.fr ∧ x.to = y.to) (by cases x; cases y; simp)
def ClEq (x y : Cl) : Bool := x.port.toList == y.port.toList && (x.cut == y.cut && (x.arr == y.arr && x.dep == y.dep))
theorem clEq_iff (x y : Cl) : ClEq x y = decide (x = y) := by
  obtain ⟨a, b, c, d⟩ := x
  obtain ⟨a', b', c', d'⟩ := y
  simp only [ClEq, str_beq, Cl.mk.injEq]
  rw [Bool.eq_iff_iff]
  simp
theorem clEq_yes {x y : Cl} (h : x = y) : ClEq x y = true := by rw [clEq_iff, decide_eq_true h]
theorem clEq_no {x y : Cl} (h : ¬ x = y) : ClEq x y = false := by rw [clEq_iff, decide_eq_false h]
theorem clHeld : Tryd.prog.stoodInHeld 39 = false := by kernel_rfl
theorem clGuard : Tryd.prog.eqGuardType Tryd.prog.depth 39 = false := by kernel_rfl
theorem clStruct : Tryd.prog.underlying 39 = some (.struct (Tryd.prog.fieldsOf 39)) := by kernel_rfl
theorem run_neq_cl (w : World) (x y : Cl) : (binOp .neq 39 (.agg x.cells) (.agg y.cells)).run Tryd.prog w = .ok (.bool (!ClEq x y)) w := by
  rw [run_neq_struct, run_equalIn_agg w 9999 _ _ _ clStruct clHeld]
  unfold Cl.cells
  go_simp
  unfold ClEq
  by_cases h0 : x.port.toList = y.port.toList <;> by_cases h1 : x.cut = y.cut <;> by_cases h2 : x.arr = y.arr <;> by_cases h3 : x.dep = y.dep <;> simp [h0, h1, h2, h3]
def LgEq (x y : Lg) : Bool := (x.voy : Int) == (y.voy : Int) && ((x.fr : Int) == (y.fr : Int) && (x.to : Int) == (y.to : Int))
theorem lgEq_iff (x y : Lg) : LgEq x y = decide (x = y) := by
  obtain ⟨a, b, c⟩ := x
  obtain ⟨a', b', c'⟩ := y
  simp only [LgEq, Lg.mk.injEq]
  rw [Bool.eq_iff_iff]
  simp only [Bool.and_eq_true, beq_iff_eq, decide_eq_true_eq]
  omega
theorem lgEq_yes {x y : Lg} (h : x = y) : LgEq x y = true := by rw [lgEq_iff, decide_eq_true h]
theorem lgEq_no {x y : Lg} (h : ¬ x = y) : LgEq x y = false := by rw [lgEq_iff, decide_eq_false h]
theorem lgHeld : Tryd.prog.stoodInHeld 37 = false := by kernel_rfl
theorem lgGuard : Tryd.prog.eqGuardType Tryd.prog.depth 37 = false := by kernel_rfl
theorem lgStruct : Tryd.prog.underlying 37 = some (.struct (Tryd.prog.fieldsOf 37)) := by kernel_rfl
theorem run_neq_lg (w : World) (x y : Lg) : (binOp .neq 37 (.agg x.cells) (.agg y.cells)).run Tryd.prog w = .ok (.bool (!LgEq x y)) w := by
  rw [run_neq_struct, run_equalIn_agg w 9999 _ _ _ lgStruct lgHeld]
  unfold Lg.cells
  go_simp
  unfold LgEq
  obtain ⟨a, b, c⟩ := x
  obtain ⟨a', b', c'⟩ := y
  simp only
  by_cases h0 : (a : Int) = a' <;> by_cases h1 : (b : Int) = b' <;> by_cases h2 : (c : Int) = c' <;> simp [h0, h1, h2] <;> omega
set_option maxRecDepth 5000 in
set_option maxHeartbeats 1000000 in
theorem refAlike_any (l m : List Lg) (v u : Value) (w : World) (hs : Sl w 3 v (l.map Lg.row)) (hu : Sl w 3 u (m.map Lg.row)) :
    Calls Tryd.prog 16 #[v, u] w (RetB w (decide (l = m))) := by
  have hml : l.length ≤ 9223372036854775807 := by have := hs.len_le; simp only [List.length_map, maxLen] at this; omega
  have hmm : m.length ≤ 9223372036854775807 := by have := hu.len_le; simp only [List.length_map, maxLen] at this; omega
  obtain ⟨a, c, rfl⟩ : ∃ a c, v = .slice a l.length c := by simpa using hs.shape
  obtain ⟨a', c', rfl⟩ : ∃ a c, u = .slice a m.length c := by simpa using hu.shape
  have HSL := Lib.hid hs
  have HSM := Lib.hid hu
  clear hs hu
  by_cases hlm : l.length = m.length
  · have t0 : ((l.length : Int) != (m.length : Int)) = false := by simp [hlm]
    have HLM := Lib.hid hlm
    clear hlm
    go_enter Tryd.func16, Tryd.ntmps16
    go_wp2_with fail
    clear t0
    go_loopw [5] (fun i wr => ∃ k : Nat, k ≤ l.length ∧ i = .int .i64 k ∧ decide (l = m) = decide (l.drop k = m.drop k) ∧ Below w.heap.size w wr) (fun i _ => l.length - (intOf i).toNat)
    case atStart => exact ⟨0, Nat.zero_le _, rfl, rfl, Below.refl _ _⟩
    case round =>
      obtain ⟨k, hk, rfl, hrel, hbel⟩ := hrel
      by_cases hlt : k < l.length
      · have hlt' : k < m.length := by have := HLM.out; omega
        obtain ⟨b, off, rfl, -, hb, hc⟩ := HSL.out.at (i := k) (by simpa using hlt)
        obtain ⟨b', off', rfl, -, hb', hc'⟩ := HSM.out.at (i := k) (by simpa using hlt')
        have d0 := (hbel.cell (p := ⟨b, off + k * 3, none⟩) hb).trans (hc k (Lg.row l[k]) (by simp [hlt]) 0 _ rfl)
        have e0 := (hbel.cell (p := ⟨b', off' + k * 3, none⟩) hb').trans (hc' k (Lg.row m[k]) (by simp [hlt']) 0 _ rfl)
        have d1 := (hbel.cell (p := ⟨b, off + k * 3 + 1, none⟩) hb).trans (hc k (Lg.row l[k]) (by simp [hlt]) 1 _ rfl)
        have e1 := (hbel.cell (p := ⟨b', off' + k * 3 + 1, none⟩) hb').trans (hc' k (Lg.row m[k]) (by simp [hlt']) 1 _ rfl)
        have d2 := (hbel.cell (p := ⟨b, off + k * 3 + 2, none⟩) hb).trans (hc k (Lg.row l[k]) (by simp [hlt]) 2 _ rfl)
        have e2 := (hbel.cell (p := ⟨b', off' + k * 3 + 2, none⟩) hb').trans (hc' k (Lg.row m[k]) (by simp [hlt']) 2 _ rfl)
        rw [List.drop_eq_getElem_cons hlt, List.drop_eq_getElem_cons hlt'] at hrel
        have HR := Lib.hid hrel
        clear hrel hc hc'
        generalize l[k] = x at *
        generalize m[k] = y at *
        by_cases heq : x = y
        · have HEQ := Lib.hid heq
          have t1 : LgEq x y = true := lgEq_yes heq
          have t2 := fun w => run_neq_lg w x y
          unfold Lg.cells at t2
          have t3 := lgGuard
          clear heq
          go_wp2_with fail
          go_quiet (fail)
          go_wp2_with fail
          go_roundw
          case rel => exact ⟨k + 1, by omega, by go_num, by rw [HR.out, HEQ.out]; simp, below_drewN hbel _⟩
          case measure => simp [intOf]; omega
        · have HEQ := Lib.hid heq
          have t1 : LgEq x y = false := lgEq_no heq
          have t2 := fun w => run_neq_lg w x y
          unfold Lg.cells at t2
          have t3 := lgGuard
          clear heq
          go_wp2_with fail
          go_quiet (fail)
          go_wp2_with fail
          go_ret
          exact retB (by rw [HR.out]; simp [HEQ.out]) (below_drewN hbel _)
      · have HR := Lib.hid hrel
        clear hrel
        go_wp2_with fail
        go_ret
        exact retB (by rw [HR.out, List.drop_eq_nil_of_le (by omega), List.drop_eq_nil_of_le (by have := HLM.out; omega)]; rfl) hbel
  · have t0 : ((l.length : Int) != (m.length : Int)) = true := by simp; omega
    have HLM := Lib.hid hlm
    clear hlm
    go_enter Tryd.func16, Tryd.ntmps16
    go_wp2_with fail
    go_ret
    exact retB (by symm; exact decide_eq_false fun h => HLM.out (by rw [h])) (Below.refl _ _)

set_option maxHeartbeats 1000000 in
theorem refSame_any (s s' : ByteArray) (v u : Value) (l m : List Cl) (w : World) (hs : Sl w 4 v (l.map Cl.row)) (hu : Sl w 4 u (m.map Cl.row)) :
    Calls Tryd.prog 15 #[.agg #[.string s, v], .agg #[.string s', u]] w (RetB w (decide (s = s' ∧ l = m))) := by
  have hml : l.length ≤ 9223372036854775807 := by have := hs.len_le; simp only [List.length_map, maxLen] at this; omega
  have hmm : m.length ≤ 9223372036854775807 := by have := hu.len_le; simp only [List.length_map, maxLen] at this; omega
  obtain ⟨a, c, rfl⟩ : ∃ a c, v = .slice a l.length c := by simpa using hs.shape
  obtain ⟨a', c', rfl⟩ : ∃ a c, u = .slice a m.length c := by simpa using hu.shape
  have HSL := Lib.hid hs
  have HSM := Lib.hid hu
  obtain ⟨w0, hw0⟩ : ∃ w0, w0 = (w.alloc (.cells #[.string s, .slice a l.length c] 32)).alloc (.cells #[.string s', .slice a' m.length c'] 32) := ⟨_, rfl⟩
  have HB : Hid (Below w.heap.size w w0) := Lib.hid (by rw [hw0]; exact (one_below w _).alloc (by simp) _)
  have H2 : Hid (w0.heap[w.heap.size]? = some (.cells #[.string s, .slice a l.length c] 32 (0, 0))) := Lib.hid (by
    rw [hw0]
    exact blk (one_below _ _) (by simp) (heap_alloc_new w _))
  have H3 : Hid (w0.heap[w.heap.size + 1]? = some (.cells #[.string s', .slice a' m.length c'] 32 (0, 0))) := Lib.hid (by
    rw [hw0]
    have := heap_alloc_new (w.alloc (.cells #[.string s, .slice a l.length c] 32)) (.cells #[.string s', .slice a' m.length c'] 32)
    simpa using this)
  clear hs hu
  by_cases hss : ¬ s = s'
  · have t0 := str_no hss
    rw [decide_eq_false (fun h => hss h.1)]
    clear hss
    go_enter Tryd.func15, Tryd.ntmps15
    go_wp2_with fail
    rw [← hw0]
    go_ret
    exact retB rfl HB.out
  have hss := Decidable.not_not.1 hss
  have t0 := str_yes hss
  have HSS := Lib.hid hss
  by_cases hlm : ¬ l.length = m.length
  · have t1 : ((l.length : Int) != (m.length : Int)) = true := by simp; omega
    rw [decide_eq_false (fun h => hlm (by rw [h.2]))]
    clear hlm hss
    go_enter Tryd.func15, Tryd.ntmps15
    go_wp2_with fail
    rw [← hw0]
    go_ret
    exact retB rfl HB.out
  have hlm := Decidable.not_not.1 hlm
  have t1 : ((l.length : Int) != (m.length : Int)) = false := by simp [hlm]
  have HLM := Lib.hid hlm
  clear hlm hss
  go_enter Tryd.func15, Tryd.ntmps15
  go_wp2_with fail
  rw [← hw0]
  clear t0 t1 hw0
  obtain ⟨b3, hb3⟩ : ∃ b3, b3 = w.heap.size + 1 := ⟨_, rfl⟩
  rw [← hb3] at H3 ⊢
  clear hb3
  go_loopw [5] (fun i wr => ∃ k : Nat, k ≤ l.length ∧ i = .int .i64 k ∧ decide (s = s' ∧ l = m) = decide (l.drop k = m.drop k) ∧ Below w0.heap.size w0 wr) (fun i _ => l.length - (intOf i).toNat)
  case atStart => exact ⟨0, Nat.zero_le _, rfl, decide_eq_decide.2 ⟨fun h => h.2, fun h => ⟨HSS.out, h⟩⟩, Below.refl _ _⟩
  case round =>
    obtain ⟨k, hk, rfl, hrel, hb0⟩ := hrel
    have hbel := HB.out.trans (hb0.mono HB.out.size)
    have H2R := blk hb0 (lt_blk H2.out) H2.out
    have H3R := blk hb0 (lt_blk H3.out) H3.out
    have z2 := cell_blk H2R 1
    have z3 := cell_blk H3R 1
    have HB0 := Lib.hid hb0
    clear H2R H3R hb0
    by_cases hlt : k < l.length
    · have hlt' : k < m.length := by have := HLM.out; omega
      obtain ⟨b, off, rfl, -, hb, hc⟩ := HSL.out.at (i := k) (by simpa using hlt)
      obtain ⟨b', off', rfl, -, hb', hc'⟩ := HSM.out.at (i := k) (by simpa using hlt')
      have d0 := (hbel.cell (p := ⟨b, off + k * 4, none⟩) hb).trans (hc k l[k].row (by simp [hlt]) 0 _ rfl)
      have d1 := (hbel.cell (p := ⟨b, off + k * 4 + 1, none⟩) hb).trans (hc k l[k].row (by simp [hlt]) 1 _ rfl)
      have d2 := (hbel.cell (p := ⟨b, off + k * 4 + 2, none⟩) hb).trans (hc k l[k].row (by simp [hlt]) 2 _ rfl)
      have d3 := (hbel.cell (p := ⟨b, off + k * 4 + 3, none⟩) hb).trans (hc k l[k].row (by simp [hlt]) 3 _ rfl)
      have e0 := (hbel.cell (p := ⟨b', off' + k * 4, none⟩) hb').trans (hc' k m[k].row (by simp [hlt']) 0 _ rfl)
      have e1 := (hbel.cell (p := ⟨b', off' + k * 4 + 1, none⟩) hb').trans (hc' k m[k].row (by simp [hlt']) 1 _ rfl)
      have e2 := (hbel.cell (p := ⟨b', off' + k * 4 + 2, none⟩) hb').trans (hc' k m[k].row (by simp [hlt']) 2 _ rfl)
      have e3 := (hbel.cell (p := ⟨b', off' + k * 4 + 3, none⟩) hb').trans (hc' k m[k].row (by simp [hlt']) 3 _ rfl)
      rw [List.drop_eq_getElem_cons hlt, List.drop_eq_getElem_cons hlt'] at hrel
      have HR := Lib.hid hrel
      have HBL := Lib.hid hbel
      clear hrel hc hc'
      generalize l[k] = x at *
      generalize m[k] = y at *
      have t2 := fun w => run_neq_cl w x y
      unfold Cl.cells at t2
      have t3 := clGuard
      by_cases heq : x = y
      · have HEQ := Lib.hid heq
        have t1 : ClEq x y = true := clEq_yes heq
        clear heq
        go_wp2_with fail
        go_quiet (fail)
        go_wp2_with fail
        go_roundw
        case rel => exact ⟨k + 1, by omega, by go_num, by rw [HR.out, HEQ.out]; simp, below_drewN HB0.out _⟩
        case measure => simp [intOf]; omega
      · have HEQ := Lib.hid heq
        have t1 : ClEq x y = false := clEq_no heq
        clear heq
        go_wp2_with fail
        go_quiet (fail)
        go_wp2_with fail
        go_ret
        exact retB (by rw [HR.out]; simp [HEQ.out]) (below_drewN HBL.out _)
    · have HR := Lib.hid hrel
      have HBL := Lib.hid hbel
      clear hrel
      go_wp2_with fail
      go_ret
      exact retB (by rw [HR.out, List.drop_eq_nil_of_le (by omega), List.drop_eq_nil_of_le (by have := HLM.out; omega)]; rfl) HBL.out
/-- Are voyages few, and short? -/
def fewB (l : List Vm) : Bool := l.all (fun v => decide (v.calls.length ≤ 8)) && decide (l.length ≤ 8)
set_option maxHeartbeats 1000000 in
theorem few_any (l : List Vm) (v : Value) (w : World) (hs : VsAt w v l) : Calls Tryd.prog 11 #[v] w (RetB w (fewB l)) := by
  have hml : l.length ≤ 9223372036854775807 := by have := hs.1.len_le; simp only [List.length_map, maxLen] at this; omega
  obtain ⟨a, c, rfl⟩ : ∃ a c, v = .slice a l.length c := by simpa using hs.1.shape
  have HS := Lib.hid hs
  clear hs
  go_enter Tryd.func11, Tryd.ntmps11
  go_wp2_with fail
  go_loopw [3] (fun i wr => wr = w ∧ ∃ k : Nat, k ≤ l.length ∧ i = .int .i64 k ∧ ∀ j (h : j < l.length), j < k → l[j].calls.length ≤ 8) (fun i _ => l.length - (intOf i).toNat)
  case atStart => exact ⟨rfl, 0, Nat.zero_le _, rfl, fun _ _ h => absurd h (Nat.not_lt_zero _)⟩
  case round =>
    obtain ⟨rfl, k, hk, rfl, hall⟩ := hrel
    have HA := Lib.hid hall
    clear hall
    by_cases hlt : k < l.length
    · obtain ⟨b, off, rfl, hb, e0, e1, hcs⟩ := vs_at HS.out hlt
      have hki : ((k : Nat) : Int) < (l.length : Int) := by omega
      obtain ⟨ac, cc, hv⟩ : ∃ a c, l[k].val = .slice a l[k].calls.length c := by simpa using hcs.shape
      rw [hv] at e1
      have hcl : l[k].calls.length ≤ 9223372036854775807 := by have := hcs.len_le; simp only [List.length_map, maxLen] at this; omega
      have HKL := Lib.hid hlt
      clear e0 hcs hv
      by_cases h8 : 8 < l[k].calls.length
      · have t1 : decide ((8 : Int) < (l[k].calls.length : Int)) = true := decide_eq_true (by omega)
        have t2 : decide (8 < l[k].calls.length) = true := decide_eq_true h8
        have HF : Hid (fewB l = false) := Lib.hid (by
          rw [fewB, Bool.and_eq_false_iff]
          exact .inl (List.all_eq_false.2 ⟨l[k], List.getElem_mem hlt, by simpa using h8⟩))
        generalize l[k].calls.length = n at *
        clear h8
        go_wp2_with fail
        go_ret
        exact retB HF.out.symm (Below.refl _ _)
      · have t1 : decide ((8 : Int) < (l[k].calls.length : Int)) = false := decide_eq_false (by omega)
        have t2 : decide (8 < l[k].calls.length) = false := decide_eq_false h8
        have HN : Hid (∀ j (h : j < l.length), j < k + 1 → l[j].calls.length ≤ 8) := Lib.hid (fun j h hj => by
          rcases Nat.lt_or_ge j k with h1 | h1
          · exact HA.out j h h1
          · obtain rfl : j = k := by omega
            omega)
        generalize l[k].calls.length = n at *
        clear h8
        go_wp2_with fail
        go_roundw
        case rel => exact ⟨trivial, k + 1, HKL.out, by go_num, HN.out⟩
        case measure => (simp [intOf]) <;> omega
    · have HF : Hid (fewB l = decide (l.length ≤ 8)) := Lib.hid (by
        rw [fewB, List.all_eq_true.2 (fun v hv => by
          obtain ⟨j, hj, rfl⟩ := List.getElem_of_mem hv
          exact decide_eq_true (HA.out j hj (by omega))), Bool.true_and])
      clear hk
      go_wp2_with fail
      go_ret
      exact retB (by rw [HF.out]; simp; omega) (Below.refl _ _)
end Go.Proofs.YtbmjficiceiekaaDoor.Sc
