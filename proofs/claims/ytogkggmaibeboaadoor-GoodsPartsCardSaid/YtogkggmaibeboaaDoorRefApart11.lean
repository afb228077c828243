/- Which classes lie apart, by the document. -/
import Derived.Test.YtogkggmaibeboaaDoorApart11
namespace Go.Proofs.YtogkggmaibeboaaDoor.Sc
open Go Go.RowKit Go.ChangeShapes Go.WideShapes Go.ChangeAt
set_option maxRecDepth 100000

def apInner : List Obj := apPairs.map fun p => .cells #[.int .i64 p.1, .int .i64 p.2] 3 (0, 0)
def apOuter (B : Nat) : Obj := .cells ((List.range 17).map fun j => Value.slice (some ⟨B + j, 0, none⟩) 2 2).toArray 51 (0, 0)
/-- The rows as the call lays them. -/
def ApRows (B : Nat) (w : World) : Prop := ∀ (k : Nat) (p : Int × Int), apPairs[k]? = some p → w.cell? ⟨B + 17, k, none⟩ = some (.slice (some ⟨B + k, 0, none⟩) 2 2) ∧ w.cell? ⟨B + k, 0, none⟩ = some (.int .i64 p.1) ∧ w.cell? ⟨B + k, 1, none⟩ = some (.int .i64 p.2)
theorem apRows_laid (w : World) : ApRows w.heap.size ((apInner ++ [apOuter w.heap.size]).foldl World.alloc w) := by
  intro k p hp
  have hk : k < 17 := by have := (List.getElem?_eq_some_iff.1 hp).1; simpa [apPairs] using this
  have hi : (apInner ++ [apOuter w.heap.size])[k]? = some (.cells #[.int .i64 p.1, .int .i64 p.2] 3 (0, 0)) := by
    rw [List.getElem?_append_left (by simpa [apInner, apPairs] using hk), apInner, List.getElem?_map, hp]; rfl
  have ho : (apInner ++ [apOuter w.heap.size])[17]? = some (apOuter w.heap.size) := by
    rw [List.getElem?_append_right (by simp [apInner, apPairs])]; simp [apInner, apPairs]
  have h1 := alloc_fold _ w k _ hi
  have h2 := alloc_fold _ w 17 _ ho
  refine ⟨?_, cell_blk h1 0, cell_blk h1 1⟩
  have := cell_blk h2 k
  rw [this]
  simp [hk]
set_option maxHeartbeats 16000000 in
theorem refApart_any (a b : Int) (w : World) : Calls Tryd.prog 12 #[.int .i64 a, .int .i64 b] w (RetB w (apartM a b)) := by
  have HR0 := Lib.hid (apRows_laid w)
  have HSZ : Hid (w.heap.size + 17 < ((apInner ++ [apOuter w.heap.size]).foldl World.alloc w).heap.size) := Lib.hid (lt_blk (alloc_fold _ w 17 (apOuter w.heap.size) (by rw [List.getElem?_append_right (by simp [apInner, apPairs])]; simp [apInner, apPairs])))
  have HF0 := Lib.hid (fold_below (apInner ++ [apOuter w.heap.size]) w)
  by_cases hab : b < a
  all_goals
    first
      | (have tab : decide (b < a) = true := decide_eq_true hab; have HM : Hid (apartM a b = apHas b a apPairs) := Lib.hid (if_pos hab))
      | (have tab : decide (b < a) = false := decide_eq_false hab; have HM : Hid (apartM a b = apHas a b apPairs) := Lib.hid (if_neg hab))
    clear hab
    go_enter Tryd.func12, Tryd.ntmps12
    go_wp2_with fail
    clear tab
    obtain ⟨w1, hw1⟩ : ∃ x, x = (((((((((((((((((w.alloc (.cells #[.int .i64 1, .int .i64 2] 3)).alloc (.cells #[.int .i64 1, .int .i64 3] 3)).alloc (.cells #[.int .i64 1, .int .i64 4] 3)).alloc (.cells #[.int .i64 1, .int .i64 5] 3)).alloc (.cells #[.int .i64 1, .int .i64 6] 3)).alloc (.cells #[.int .i64 1, .int .i64 7] 3)).alloc (.cells #[.int .i64 1, .int .i64 8] 3)).alloc (.cells #[.int .i64 1, .int .i64 9] 3)).alloc (.cells #[.int .i64 2, .int .i64 3] 3)).alloc (.cells #[.int .i64 2, .int .i64 5] 3)).alloc (.cells #[.int .i64 3, .int .i64 5] 3)).alloc (.cells #[.int .i64 3, .int .i64 8] 3)).alloc (.cells #[.int .i64 4, .int .i64 5] 3)).alloc (.cells #[.int .i64 4, .int .i64 8] 3)).alloc (.cells #[.int .i64 5, .int .i64 6] 3)).alloc (.cells #[.int .i64 5, .int .i64 8] 3)).alloc (.cells #[.int .i64 7, .int .i64 9] 3)).alloc (.cells #[.slice (some ⟨w.heap.size, 0, none⟩) 2 2, .slice (some ⟨w.heap.size + 1, 0, none⟩) 2 2, .slice (some ⟨w.heap.size + 1 + 1, 0, none⟩) 2 2, .slice (some ⟨w.heap.size + 1 + 1 + 1, 0, none⟩) 2 2, .slice (some ⟨w.heap.size + 1 + 1 + 1 + 1, 0, none⟩) 2 2, .slice (some ⟨w.heap.size + 1 + 1 + 1 + 1 + 1, 0, none⟩) 2 2, .slice (some ⟨w.heap.size + 1 + 1 + 1 + 1 + 1 + 1, 0, none⟩) 2 2, .slice (some ⟨w.heap.size + 1 + 1 + 1 + 1 + 1 + 1 + 1, 0, none⟩) 2 2, .slice (some ⟨w.heap.size + 1 + 1 + 1 + 1 + 1 + 1 + 1 + 1, 0, none⟩) 2 2, .slice (some ⟨w.heap.size + 1 + 1 + 1 + 1 + 1 + 1 + 1 + 1 + 1, 0, none⟩) 2 2, .slice (some ⟨w.heap.size + 1 + 1 + 1 + 1 + 1 + 1 + 1 + 1 + 1 + 1, 0, none⟩) 2 2, .slice (some ⟨w.heap.size + 1 + 1 + 1 + 1 + 1 + 1 + 1 + 1 + 1 + 1 + 1, 0, none⟩) 2 2, .slice (some ⟨w.heap.size + 1 + 1 + 1 + 1 + 1 + 1 + 1 + 1 + 1 + 1 + 1 + 1, 0, none⟩) 2 2, .slice (some ⟨w.heap.size + 1 + 1 + 1 + 1 + 1 + 1 + 1 + 1 + 1 + 1 + 1 + 1 + 1, 0, none⟩) 2 2, .slice (some ⟨w.heap.size + 1 + 1 + 1 + 1 + 1 + 1 + 1 + 1 + 1 + 1 + 1 + 1 + 1 + 1, 0, none⟩) 2 2, .slice (some ⟨w.heap.size + 1 + 1 + 1 + 1 + 1 + 1 + 1 + 1 + 1 + 1 + 1 + 1 + 1 + 1 + 1, 0, none⟩) 2 2, .slice (some ⟨w.heap.size + 1 + 1 + 1 + 1 + 1 + 1 + 1 + 1 + 1 + 1 + 1 + 1 + 1 + 1 + 1 + 1, 0, none⟩) 2 2] 51) := ⟨_, rfl⟩
    rw [← hw1]
    have HR1 : Hid (ApRows w.heap.size w1) := Lib.hid (by rw [hw1]; exact HR0.out)
    have HS1 : Hid (w.heap.size + 17 < w1.heap.size) := Lib.hid (by rw [hw1]; exact HSZ.out)
    have HF1 : Hid (Below w.heap.size w w1) := Lib.hid (by rw [hw1]; exact HF0.out)
    clear hw1
    generalize Value.slice (some (Addr.mk (w.heap.size) 0 none)) 2 2 = s0
    generalize Value.slice (some (Addr.mk (w.heap.size + 1) 0 none)) 2 2 = s1
    generalize Value.slice (some (Addr.mk (w.heap.size + 1 + 1) 0 none)) 2 2 = s2
    generalize Value.slice (some (Addr.mk (w.heap.size + 1 + 1 + 1) 0 none)) 2 2 = s3
    generalize Value.slice (some (Addr.mk (w.heap.size + 1 + 1 + 1 + 1) 0 none)) 2 2 = s4
    generalize Value.slice (some (Addr.mk (w.heap.size + 1 + 1 + 1 + 1 + 1) 0 none)) 2 2 = s5
    generalize Value.slice (some (Addr.mk (w.heap.size + 1 + 1 + 1 + 1 + 1 + 1) 0 none)) 2 2 = s6
    generalize Value.slice (some (Addr.mk (w.heap.size + 1 + 1 + 1 + 1 + 1 + 1 + 1) 0 none)) 2 2 = s7
    generalize Value.slice (some (Addr.mk (w.heap.size + 1 + 1 + 1 + 1 + 1 + 1 + 1 + 1) 0 none)) 2 2 = s8
    generalize Value.slice (some (Addr.mk (w.heap.size + 1 + 1 + 1 + 1 + 1 + 1 + 1 + 1 + 1) 0 none)) 2 2 = s9
    generalize Value.slice (some (Addr.mk (w.heap.size + 1 + 1 + 1 + 1 + 1 + 1 + 1 + 1 + 1 + 1) 0 none)) 2 2 = s10
    generalize Value.slice (some (Addr.mk (w.heap.size + 1 + 1 + 1 + 1 + 1 + 1 + 1 + 1 + 1 + 1 + 1) 0 none)) 2 2 = s11
    generalize Value.slice (some (Addr.mk (w.heap.size + 1 + 1 + 1 + 1 + 1 + 1 + 1 + 1 + 1 + 1 + 1 + 1) 0 none)) 2 2 = s12
    generalize Value.slice (some (Addr.mk (w.heap.size + 1 + 1 + 1 + 1 + 1 + 1 + 1 + 1 + 1 + 1 + 1 + 1 + 1) 0 none)) 2 2 = s13
    generalize Value.slice (some (Addr.mk (w.heap.size + 1 + 1 + 1 + 1 + 1 + 1 + 1 + 1 + 1 + 1 + 1 + 1 + 1 + 1) 0 none)) 2 2 = s14
    generalize Value.slice (some (Addr.mk (w.heap.size + 1 + 1 + 1 + 1 + 1 + 1 + 1 + 1 + 1 + 1 + 1 + 1 + 1 + 1 + 1) 0 none)) 2 2 = s15
    generalize Value.slice (some (Addr.mk (w.heap.size + 1 + 1 + 1 + 1 + 1 + 1 + 1 + 1 + 1 + 1 + 1 + 1 + 1 + 1 + 1 + 1) 0 none)) 2 2 = s16
    obtain ⟨B2, hB2⟩ : ∃ B, B = w.heap.size + 1 + 1 + 1 + 1 + 1 + 1 + 1 + 1 + 1 + 1 + 1 + 1 + 1 + 1 + 1 + 1 + 1 := ⟨_, rfl⟩
    rw [← hB2]
    have HB2 : Hid (B2 = w.heap.size + 17) := Lib.hid (by omega)
    clear hB2 HR0 HSZ HF0
  · go_loopw [6] (fun i wr => ∃ k : Nat, k ≤ 17 ∧ i = .int .i64 k ∧ apHas b a apPairs = apHas b a (apPairs.drop k) ∧ ApRows w.heap.size wr ∧ w.heap.size + 17 < wr.heap.size ∧ Below w.heap.size w wr) (fun i _ => 17 - (intOf i).toNat)
    case atStart => exact ⟨0, Nat.zero_le _, rfl, rfl, HR1.out, HS1.out, HF1.out⟩
    case round =>
      obtain ⟨k, hk, rfl, hrel, hrows, hsz, hbel⟩ := hrel
      have HRW := Lib.hid hrows
      have HBEL := Lib.hid hbel
      have HSZ2 := Lib.hid hsz
      have hlen : apPairs.length = 17 := rfl
      by_cases hlt : k < 17
      · obtain ⟨r0, r1, r2⟩ := hrows k apPairs[k] (List.getElem?_eq_getElem (by omega))
        rw [List.drop_eq_getElem_cons (by omega)] at hrel
        simp only [apHas, List.any_cons] at hrel
        have HR := Lib.hid hrel
        have hkl : ((k : Nat) : Int) < 17 := by omega
        clear hrel hrows hbel hsz
        generalize apPairs[k] = p at *
        obtain ⟨p1, p2⟩ := p
        simp only at r1 r2 HR
        obtain ⟨B1, hB1⟩ : ∃ B1, B1 = w.heap.size + k := ⟨_, rfl⟩
        rw [← hB1] at r1 r2
        rw [← hB1, ← HB2.out] at r0
        clear hB1
        by_cases h1 : p1 = b
        · have t1 : (p1 == b) = true := by simp [h1]
          by_cases h2 : p2 = a
          · have t2 : (p2 == a) = true := by simp [h2]
            have HQ : Hid (apHas b a apPairs = true) := Lib.hid (by rw [apHas, HR.out, h1, h2]; simp)
            clear h1 h2
            go_wp2_with fail
            go_ret
            exact retB (by rw [HM.out, HQ.out]) HBEL.out
          · have t2 : (p2 == a) = false := by simp [h2]
            have HQ : Hid (apHas b a apPairs = apHas b a (apPairs.drop (k + 1))) := Lib.hid (by rw [apHas, HR.out, decide_eq_false h2, Bool.and_false, Bool.false_or]; rfl)
            clear h1 h2
            go_wp2_with fail
            go_roundw
            case rel => exact ⟨k + 1, by omega, by go_num, HQ.out, HRW.out, HSZ2.out, HBEL.out⟩
            case measure => simp [intOf]; omega
        · have t1 : (p1 == b) = false := by simp [h1]
          have HQ : Hid (apHas b a apPairs = apHas b a (apPairs.drop (k + 1))) := Lib.hid (by rw [apHas, HR.out, decide_eq_false h1, Bool.false_and, Bool.false_or]; rfl)
          clear h1
          go_wp2_with fail
          go_roundw
          case rel => exact ⟨k + 1, by omega, by go_num, HQ.out, HRW.out, HSZ2.out, HBEL.out⟩
          case measure => simp [intOf]; omega
      · have hE : apPairs.drop k = [] := List.drop_of_length_le (by omega)
        have HQ : Hid (apHas b a apPairs = false) := Lib.hid (by rw [hrel, hE]; rfl)
        obtain rfl : k = 17 := by omega
        clear hrel hrows hbel hE hsz
        go_wp2_with fail
        go_ret
        exact retB (by rw [HM.out, HQ.out]) HBEL.out
  · go_loopw [6] (fun i wr => ∃ k : Nat, k ≤ 17 ∧ i = .int .i64 k ∧ apHas a b apPairs = apHas a b (apPairs.drop k) ∧ ApRows w.heap.size wr ∧ w.heap.size + 17 < wr.heap.size ∧ Below w.heap.size w wr) (fun i _ => 17 - (intOf i).toNat)
    case atStart => exact ⟨0, Nat.zero_le _, rfl, rfl, HR1.out, HS1.out, HF1.out⟩
    case round =>
      obtain ⟨k, hk, rfl, hrel, hrows, hsz, hbel⟩ := hrel
      have HRW := Lib.hid hrows
      have HBEL := Lib.hid hbel
      have HSZ2 := Lib.hid hsz
      have hlen : apPairs.length = 17 := rfl
      by_cases hlt : k < 17
      · obtain ⟨r0, r1, r2⟩ := hrows k apPairs[k] (List.getElem?_eq_getElem (by omega))
        rw [List.drop_eq_getElem_cons (by omega)] at hrel
        simp only [apHas, List.any_cons] at hrel
        have HR := Lib.hid hrel
        have hkl : ((k : Nat) : Int) < 17 := by omega
        clear hrel hrows hbel hsz
        generalize apPairs[k] = p at *
        obtain ⟨p1, p2⟩ := p
        simp only at r1 r2 HR
        obtain ⟨B1, hB1⟩ : ∃ B1, B1 = w.heap.size + k := ⟨_, rfl⟩
        rw [← hB1] at r1 r2
        rw [← hB1, ← HB2.out] at r0
        clear hB1
        by_cases h1 : p1 = a
        · have t1 : (p1 == a) = true := by simp [h1]
          by_cases h2 : p2 = b
          · have t2 : (p2 == b) = true := by simp [h2]
            have HQ : Hid (apHas a b apPairs = true) := Lib.hid (by rw [apHas, HR.out, h1, h2]; simp)
            clear h1 h2
            go_wp2_with fail
            go_ret
            exact retB (by rw [HM.out, HQ.out]) HBEL.out
          · have t2 : (p2 == b) = false := by simp [h2]
            have HQ : Hid (apHas a b apPairs = apHas a b (apPairs.drop (k + 1))) := Lib.hid (by rw [apHas, HR.out, decide_eq_false h2, Bool.and_false, Bool.false_or]; rfl)
            clear h1 h2
            go_wp2_with fail
            go_roundw
            case rel => exact ⟨k + 1, by omega, by go_num, HQ.out, HRW.out, HSZ2.out, HBEL.out⟩
            case measure => simp [intOf]; omega
        · have t1 : (p1 == a) = false := by simp [h1]
          have HQ : Hid (apHas a b apPairs = apHas a b (apPairs.drop (k + 1))) := Lib.hid (by rw [apHas, HR.out, decide_eq_false h1, Bool.false_and, Bool.false_or]; rfl)
          clear h1
          go_wp2_with fail
          go_roundw
          case rel => exact ⟨k + 1, by omega, by go_num, HQ.out, HRW.out, HSZ2.out, HBEL.out⟩
          case measure => simp [intOf]; omega
      · have hE : apPairs.drop k = [] := List.drop_of_length_le (by omega)
        have HQ : Hid (apHas a b apPairs = false) := Lib.hid (by rw [hrel, hE]; rfl)
        obtain rfl : k = 17 := by omega
        clear hrel hrows hbel hE hsz
        go_wp2_with fail
        go_ret
        exact retB (by rw [HM.out, HQ.out]) HBEL.out
end Go.Proofs.YtogkggmaibeboaaDoor.Sc
