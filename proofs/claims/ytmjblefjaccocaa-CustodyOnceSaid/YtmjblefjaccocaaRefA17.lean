/- The document's rows: Boxes, Texts, Same. -/
import Derived.Test.YtmjblefjaccocaaStr
import Derived.Laws.StructEq
namespace Go.Proofs.Ytmjblefjaccocaa.Sc
open Go Go.RowKit Go.ChangeShapes Go.WideShapes Go.ChangeAt

set_option maxRecDepth 5000 in
set_option maxHeartbeats 1000000 in
theorem refBoxes_any (l : List Hd) (v : Value) (w : World) (hs : Sl w 5 v (l.map Hd.row)) (hlen : l.length ≤ 1000000) :
    Calls Try.prog 27 #[v] w (RetRow w 9 1 (boxesS l).length (strCells (boxesS l))) := by
  have hml : l.length ≤ 9223372036854775807 := by omega
  obtain ⟨a, c, rfl⟩ : ∃ a c, v = .slice a l.length c := by simpa using hs.shape
  have HSL := Lib.hid hs
  have HLEN := Lib.hid hlen
  clear hs hlen
  go_enter Try.func27, Try.ntmps27
  go_wp2_with fail
  go_loopw [3, 4] (fun o i wr => ∃ k : Nat, k ≤ l.length ∧ i = .int .i64 k ∧ wr.ownsRow w.heap.size 9 1 o (boxesS (l.take k)).length (strCells (boxesS (l.take k))) ∧ Below w.heap.size w wr) (fun _ i _ => l.length - (intOf i).toNat)
  case atStart => exact ⟨0, Nat.zero_le _, rfl, World.ownsRow_made w #[] 0 (Nat.le_refl _) (by simp [maxLen]) rfl, one_below _ _⟩
  case round =>
    obtain ⟨k, hk, rfl, hown, hbel⟩ := hrel
    have HOWN := Lib.hid hown
    clear hown
    by_cases hlt : k < l.length
    · obtain ⟨b, off, rfl, -, hb, hc⟩ := HSL.out.at (i := k) (by simpa using hlt)
      have hr := hc k l[k].row (by simp [hlt])
      have d0 := (hbel.cell (p := ⟨b, off + k * 5, none⟩) hb).trans (hr 0 _ rfl)
      have HT := Lib.hid (boxesS_take l k hlt)
      have HLL : Hid ((boxesS (l.take k)).length ≤ 1000000) := Lib.hid (by
        have h1 := boxesS_len (l.take k)
        have h2 : (l.take k).length ≤ l.length := by simp; omega
        have h3 := HLEN.out
        omega)
      clear hr hc
      generalize l[k] = x at *
      go_wp2_with (first | ((with_reducible refine (refPut_any (boxesS (l.take k)) x.box _ _ (own_strs HOWN.out rfl) HLL.out).mono ?_); rintro e w1 ⟨v1, rfl, hown1, hb1⟩; have hb2 := hbel.trans (hb1.mono hbel.size); have HOWN1 := Lib.hid (ownsRow_base hown1 hbel.size); clear hown1 hb1) | fail)
      go_roundw
      case rel => exact ⟨k + 1, by omega, by go_num, by rw [HT.out]; exact HOWN1.out, hb2⟩
      case measure => simp [intOf]; omega
    · go_wp2_with fail
      go_ret
      have := HOWN.out
      rw [List.take_of_length_le (by omega)] at this
      exact retRow this (Nat.le_refl _) hbel

set_option maxRecDepth 5000 in
set_option maxHeartbeats 1000000 in
theorem refTexts_any (l m : List ByteArray) (v u : Value) (w : World) (hs : Sl w 1 v (l.map stRow)) (hu : Sl w 1 u (m.map stRow)) :
    Calls Try.prog 24 #[v, u] w (RetB w (decide (l = m))) := by
  have hml : l.length ≤ 9223372036854775807 := by have := hs.len_le; simp only [List.length_map, maxLen] at this; omega
  have hmm : m.length ≤ 9223372036854775807 := by have := hu.len_le; simp only [List.length_map, maxLen] at this; omega
  obtain ⟨a, c, rfl⟩ : ∃ a c, v = .slice a l.length c := by simpa using hs.shape
  obtain ⟨a', c', rfl⟩ : ∃ a c, u = .slice a m.length c := by simpa using hu.shape
  have HSL := Lib.hid hs
  have HSM := Lib.hid hu
  clear hs hu
  by_cases hlm : l.length = m.length
  · have t0 : ((l.length : Int) != (m.length : Int)) = false := by simp [hlm]
    have HLM := Lib.hid hlm
    clear hlm
    go_enter Try.func24, Try.ntmps24
    go_wp2_with fail
    clear t0
    go_loopw [5] (fun i wr => ∃ k : Nat, k ≤ l.length ∧ i = .int .i64 k ∧ decide (l = m) = decide (l.drop k = m.drop k) ∧ Below w.heap.size w wr) (fun i _ => l.length - (intOf i).toNat)
    case atStart => exact ⟨0, Nat.zero_le _, rfl, rfl, Below.refl _ _⟩
    case round =>
      obtain ⟨k, hk, rfl, hrel, hbel⟩ := hrel
      by_cases hlt : k < l.length
      · have hlt' : k < m.length := by have := HLM.out; omega
        obtain ⟨b, off, rfl, -, hb, hc⟩ := HSL.out.at (i := k) (by simpa using hlt)
        obtain ⟨b', off', rfl, -, hb', hc'⟩ := HSM.out.at (i := k) (by simpa using hlt')
        have d0 := (hbel.cell (p := ⟨b, off + k * 1, none⟩) hb).trans (hc k (stRow l[k]) (by simp [hlt]) 0 _ rfl)
        have e0 := (hbel.cell (p := ⟨b', off' + k * 1, none⟩) hb').trans (hc' k (stRow m[k]) (by simp [hlt']) 0 _ rfl)
        rw [Nat.mul_one] at d0 e0
        rw [List.drop_eq_getElem_cons hlt, List.drop_eq_getElem_cons hlt'] at hrel
        have HR := Lib.hid hrel
        clear hrel hc hc'
        generalize l[k] = x at *
        generalize m[k] = y at *
        by_cases heq : x = y
        · have t1 := str_yes heq
          have HEQ := Lib.hid heq
          clear heq
          go_wp2_with fail
          go_quiet (fail)
          go_wp2_with fail
          go_roundw
          case rel => exact ⟨k + 1, by omega, by go_num, by rw [HR.out, HEQ.out]; simp, below_drewN hbel _⟩
          case measure => simp [intOf]; omega
        · have t1 := str_no heq
          have HEQ := Lib.hid heq
          clear heq
          go_wp2_with fail
          go_quiet (fail)
          go_wp2_with fail
          go_ret
          exact retB (by rw [HR.out]; simp [HEQ.out]) (below_drewN hbel _)
      · have HR := Lib.hid hrel
        clear hrel
        go_wp2_with fail
        go_ret
        exact retB (by rw [HR.out, List.drop_eq_nil_of_le (by omega), List.drop_eq_nil_of_le (by have := HLM.out; omega)]; rfl) hbel
  · have t0 : ((l.length : Int) != (m.length : Int)) = true := by simp; omega
    have HLM := Lib.hid hlm
    clear hlm
    go_enter Try.func24, Try.ntmps24
    go_wp2_with fail
    go_ret
    exact retB (by symm; exact decide_eq_false fun h => HLM.out (by rw [h])) (Below.refl _ _)
theorem hdHeld : Try.prog.stoodInHeld 41 = false := by kernel_rfl
theorem hdGuard : Try.prog.eqGuardType Try.prog.depth 41 = false := by kernel_rfl
theorem hdStruct : Try.prog.underlying 41 = some (.struct (Try.prog.fieldsOf 41)) := by kernel_rfl
theorem run_neq_hd (w : World) (x y : Hd) : (binOp .neq 41 (.agg x.cells) (.agg y.cells)).run Try.prog w = .ok (.bool (!HdEq x y)) w := by
  rw [run_neq_struct, run_equalIn_agg w 9999 _ _ _ hdStruct hdHeld]
  unfold Hd.cells
  go_simp
  unfold HdEq
  by_cases h0 : x.box.toList = y.box.toList <;> by_cases h1 : x.frm.toList = y.frm.toList <;> by_cases h2 : x.to.toList = y.to.toList <;> by_cases h3 : x.place.toList = y.place.toList <;> by_cases h4 : x.day = y.day <;> simp [h0, h1, h2, h3, h4]

set_option maxRecDepth 5000 in
set_option maxHeartbeats 1000000 in
theorem refSame_any (l m : List Hd) (v u : Value) (w : World) (hs : Sl w 5 v (l.map Hd.row)) (hu : Sl w 5 u (m.map Hd.row)) :
    Calls Try.prog 14 #[v, u] w (RetB w (decide (l = m))) := by
  have hml : l.length ≤ 9223372036854775807 := by have := hs.len_le; simp only [List.length_map, maxLen] at this; omega
  have hmm : m.length ≤ 9223372036854775807 := by have := hu.len_le; simp only [List.length_map, maxLen] at this; omega
  obtain ⟨a, c, rfl⟩ : ∃ a c, v = .slice a l.length c := by simpa using hs.shape
  obtain ⟨a', c', rfl⟩ : ∃ a c, u = .slice a m.length c := by simpa using hu.shape
  have HSL := Lib.hid hs
  have HSM := Lib.hid hu
  clear hs hu
  by_cases hlm : l.length = m.length
  · have t0 : ((l.length : Int) != (m.length : Int)) = false := by simp [hlm]
    have HLM := Lib.hid hlm
    clear hlm
    go_enter Try.func14, Try.ntmps14
    go_wp2_with fail
    clear t0
    go_loopw [5] (fun i wr => ∃ k : Nat, k ≤ l.length ∧ i = .int .i64 k ∧ decide (l = m) = decide (l.drop k = m.drop k) ∧ Below w.heap.size w wr) (fun i _ => l.length - (intOf i).toNat)
    case atStart => exact ⟨0, Nat.zero_le _, rfl, rfl, Below.refl _ _⟩
    case round =>
      obtain ⟨k, hk, rfl, hrel, hbel⟩ := hrel
      by_cases hlt : k < l.length
      · have hlt' : k < m.length := by have := HLM.out; omega
        obtain ⟨b, off, rfl, -, hb, hc⟩ := HSL.out.at (i := k) (by simpa using hlt)
        obtain ⟨b', off', rfl, -, hb', hc'⟩ := HSM.out.at (i := k) (by simpa using hlt')
        have d0 := (hbel.cell (p := ⟨b, off + k * 5, none⟩) hb).trans (hc k l[k].row (by simp [hlt]) 0 _ rfl)
        have e0 := (hbel.cell (p := ⟨b', off' + k * 5, none⟩) hb').trans (hc' k m[k].row (by simp [hlt']) 0 _ rfl)
        have d1 := (hbel.cell (p := ⟨b, off + k * 5 + 1, none⟩) hb).trans (hc k l[k].row (by simp [hlt]) 1 _ rfl)
        have e1 := (hbel.cell (p := ⟨b', off' + k * 5 + 1, none⟩) hb').trans (hc' k m[k].row (by simp [hlt']) 1 _ rfl)
        have d2 := (hbel.cell (p := ⟨b, off + k * 5 + 2, none⟩) hb).trans (hc k l[k].row (by simp [hlt]) 2 _ rfl)
        have e2 := (hbel.cell (p := ⟨b', off' + k * 5 + 2, none⟩) hb').trans (hc' k m[k].row (by simp [hlt']) 2 _ rfl)
        have d3 := (hbel.cell (p := ⟨b, off + k * 5 + 3, none⟩) hb).trans (hc k l[k].row (by simp [hlt]) 3 _ rfl)
        have e3 := (hbel.cell (p := ⟨b', off' + k * 5 + 3, none⟩) hb').trans (hc' k m[k].row (by simp [hlt']) 3 _ rfl)
        have d4 := (hbel.cell (p := ⟨b, off + k * 5 + 4, none⟩) hb).trans (hc k l[k].row (by simp [hlt]) 4 _ rfl)
        have e4 := (hbel.cell (p := ⟨b', off' + k * 5 + 4, none⟩) hb').trans (hc' k m[k].row (by simp [hlt']) 4 _ rfl)
        rw [List.drop_eq_getElem_cons hlt, List.drop_eq_getElem_cons hlt'] at hrel
        have HR := Lib.hid hrel
        clear hrel hc hc'
        generalize l[k] = x at *
        generalize m[k] = y at *
        by_cases heq : x = y
        · have t1 : HdEq x y = true := hdEq_yes heq
          have t2 := fun w => run_neq_hd w x y
          unfold Hd.cells at t2
          have t3 := hdGuard
          have HEQ := Lib.hid heq
          clear heq
          go_wp2_with fail
          go_quiet (fail)
          go_wp2_with fail
          go_roundw
          case rel => exact ⟨k + 1, by omega, by go_num, by rw [HR.out, HEQ.out]; simp, below_drewN hbel _⟩
          case measure => simp [intOf]; omega
        · have t1 : HdEq x y = false := hdEq_no heq
          have t2 := fun w => run_neq_hd w x y
          unfold Hd.cells at t2
          have t3 := hdGuard
          have HEQ := Lib.hid heq
          clear heq
          go_wp2_with fail
          go_quiet (fail)
          go_wp2_with fail
          go_ret
          exact retB (by rw [HR.out]; simp [HEQ.out]) (below_drewN hbel _)
      · have HR := Lib.hid hrel
        clear hrel
        go_wp2_with fail
        go_ret
        exact retB (by rw [HR.out, List.drop_eq_nil_of_le (by omega), List.drop_eq_nil_of_le (by have := HLM.out; omega)]; rfl) hbel
  · have t0 : ((l.length : Int) != (m.length : Int)) = true := by simp; omega
    have HLM := Lib.hid hlm
    clear hlm
    go_enter Try.func14, Try.ntmps14
    go_wp2_with fail
    go_ret
    exact retB (by symm; exact decide_eq_false fun h => HLM.out (by rw [h])) (Below.refl _ _)
end Go.Proofs.Ytmjblefjaccocaa.Sc
