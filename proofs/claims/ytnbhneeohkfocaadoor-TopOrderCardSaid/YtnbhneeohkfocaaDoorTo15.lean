/- Which orders may be: May. Orders that may be: their totals; their lines by goods. The buyer's costs of an order: Split; parts, Landed. -/
import Derived.Test.YtnbhneeohkfocaaDoorTo13
import Derived.Test.YtnbhneeohkfocaaDoorTo14
import Derived.OwnWalk
namespace Go.Proofs.YtnbhneeohkfocaaDoor.Sc
open Go Go.RowKit Go.ChangeShapes Go.WideShapes Go.ChangeAt
set_option maxRecDepth 100000

def lineP (pre : List Ln) (x : Ln) : Bool := nameOk x.good && (!(pre.any fun y => decide (y.good = x.good)) && (cntO x.cnt && (decide (0 ≤ x.price) && decide (x.price ≤ 1073741824))))
def linesP : List Ln → List Ln → Bool
  | _, [] => true
  | pre, x :: r => lineP pre x && linesP (pre ++ [x]) r
def mayO (s0 s1 s2 s3 s4 s5 : ByteArray) (tm : Int) (L : List Ln) : Bool :=
  nameOk s0 && (nameOk s1 && (nameOk s2 && (nameOk s4 && (nameOk s5 && (!decide (s1 = s2) && (curOk s3 && (decide (0 ≤ tm) && (decide (tm ≤ 7) && (decide (1 ≤ L.length) && (decide (L.length ≤ 64) && linesP [] L))))))))))
def entsO (pre : List Ln) : Mp.Ents := pre.map fun x => (x.good, Value.bool true)
theorem keys_entsO (pre : List Ln) : Mp.mkeys (entsO pre) = pre.map Ln.good := by simp [entsO, Mp.mkeys]
theorem get_entsO (g : ByteArray) : ∀ pre : List Ln, (Mp.mget (entsO pre) g).getD (.bool false) = .bool (pre.any fun y => decide (y.good = g))
  | [] => rfl
  | x :: r => by
    have ih := get_entsO g r
    unfold entsO at ih ⊢
    rw [List.map_cons, List.any_cons]
    by_cases h : g = x.good
    · subst h
      simp [Mp.mget]
    · have h2 : decide (x.good = g) = false := decide_eq_false (fun e => h e.symm)
      rw [h2, Bool.false_or, show Mp.mget ((x.good, Value.bool true) :: r.map fun x => (x.good, Value.bool true)) g = Mp.mget (r.map fun x => (x.good, Value.bool true)) g from if_neg h]
      exact ih
theorem put_entsO {pre : List Ln} {x : Ln} (h : (pre.any fun y => decide (y.good = x.good)) = false) : Mp.mput (entsO pre) x.good (.bool true) = entsO (pre ++ [x]) := by
  rw [Mp.mput_new]
  · simp [entsO]
  · rw [keys_entsO]
    intro hm
    obtain ⟨y, hy, he⟩ := List.mem_map.1 hm
    rw [List.any_eq_false] at h
    exact h y hy (decide_eq_true he)
theorem linesP_at {L : List Ln} {k : Nat} (h : k < L.length) : linesP (L.take k) (L.drop k) = (lineP (L.take k) L[k] && linesP (L.take (k + 1)) (L.drop (k + 1))) := by
  rw [List.drop_eq_getElem_cons h, linesP, List.take_succ_eq_append_getElem h]
theorem zeroBoolO (w : World) : (zeroValue 4).run Tryd.prog w = .ok (.bool false) w := by kernel_rfl
set_option maxHeartbeats 16000000 in
theorem may_any (s0 s1 s2 s3 s4 s5 : ByteArray) (tm : Int) (L : List Ln) (v : Value) (w : World) (hs : Sl w 3 v (L.map Ln.row)) :
    Calls Tryd.prog 13 #[.agg #[.string s0, .string s1, .string s2, .string s3, .string s4, .string s5, .int .i64 tm, v]] w (RetB w (mayO s0 s1 s2 s3 s4 s5 tm L)) := by
  have hll : L.length ≤ maxLen := by simpa using hs.len_le
  obtain ⟨a, c, rfl⟩ : ∃ a c, v = .slice a L.length c := by simpa using hs.shape
  have HS := Lib.hid hs
  have HLL := Lib.hid hll
  obtain ⟨w2, hw2⟩ : ∃ W, W = (w.alloc (.cells #[.string s0, .string s1, .string s2, .string s3, .string s4, .string s5, .int .i64 tm, .slice a L.length c] 24)).alloc (.cells #[.string s0, .string s1, .string s2, .string s4, .string s5] 9) := ⟨_, rfl⟩
  have hb1 := one_below w (.cells #[.string s0, .string s1, .string s2, .string s3, .string s4, .string s5, .int .i64 tm, .slice a L.length c] 24)
  have hb2 := one_below (w.alloc (.cells #[.string s0, .string s1, .string s2, .string s3, .string s4, .string s5, .int .i64 tm, .slice a L.length c] 24)) (.cells #[.string s0, .string s1, .string s2, .string s4, .string s5] 9)
  have HB2 : Hid (Below w.heap.size w w2) := Lib.hid (hw2 ▸ hb1.trans (hb2.mono hb1.size))
  have hx : w2.heap[w.heap.size]? = some (.cells #[.string s0, .string s1, .string s2, .string s3, .string s4, .string s5, .int .i64 tm, .slice a L.length c] 24) := hw2 ▸ blk hb2 (by simp) (heap_alloc_new w _)
  have hy : w2.heap[w.heap.size + 1]? = some (.cells #[.string s0, .string s1, .string s2, .string s4, .string s5] 9) := by
    have := heap_alloc_new (w.alloc (.cells #[.string s0, .string s1, .string s2, .string s3, .string s4, .string s5, .int .i64 tm, .slice a L.length c] 24)) (.cells #[.string s0, .string s1, .string s2, .string s4, .string s5] 9)
    rw [hw2]
    simpa using this
  have HNM : Hid (∀ W, Below w2.heap.size w2 W → W.cell? ⟨w.heap.size + 1, 0, none⟩ = some (.string s0) ∧ W.cell? ⟨w.heap.size + 1, 1, none⟩ = some (.string s1) ∧ W.cell? ⟨w.heap.size + 1, 2, none⟩ = some (.string s2) ∧ W.cell? ⟨w.heap.size + 1, 3, none⟩ = some (.string s4) ∧ W.cell? ⟨w.heap.size + 1, 4, none⟩ = some (.string s5)) := Lib.hid (fun W h => by
    have := blk h (lt_blk hy) hy
    exact ⟨cell_blk this 0, cell_blk this 1, cell_blk this 2, cell_blk this 3, cell_blk this 4⟩)
  have HXO : Hid (∀ W, Below w2.heap.size w2 W → W.heap[w.heap.size]? = some (.cells #[.string s0, .string s1, .string s2, .string s3, .string s4, .string s5, .int .i64 tm, .slice a L.length c] 24)) := Lib.hid (fun W h => blk h (lt_blk hx) hx)
  have HW2 := Lib.hid hw2.symm
  clear hb1 hb2 hx hy hw2 hs
  go_enter Tryd.func13, Tryd.ntmps13
  go_wp2_with fail
  rw [HW2.out]
  go_loopw [4, 20] (fun _ i wr => ∃ k : Nat, k ≤ 5 ∧ i = .int .i64 k ∧ ((0 < k → nameOk s0 = true) ∧ (1 < k → nameOk s1 = true) ∧ (2 < k → nameOk s2 = true) ∧ (3 < k → nameOk s4 = true) ∧ (4 < k → nameOk s5 = true)) ∧ Below w2.heap.size w2 wr) (fun _ i _ => 5 - (intOf i).toNat)
  case atStart => exact ⟨0, by decide, rfl, ⟨fun h => absurd h (by decide), fun h => absurd h (by decide), fun h => absurd h (by decide), fun h => absurd h (by decide), fun h => absurd h (by decide)⟩, Below.refl _ _⟩
  case round =>
    obtain ⟨k, hk, rfl, hz, hbel⟩ := hrel
    have HZ := Lib.hid hz
    clear hz
    obtain rfl | rfl | rfl | rfl | rfl | rfl : k = 0 ∨ k = 1 ∨ k = 2 ∨ k = 3 ∨ k = 4 ∨ k = 5 := by omega
    · obtain ⟨n0, n1, n2, n3, n4⟩ := HNM.out _ hbel
      have HB := Lib.hid hbel
      have HM := Lib.hid (fun W => markName_any s0 W)
      cases hc : nameOk s0
      · rw [hc] at HM
        have HF : Hid (mayO s0 s1 s2 s3 s4 s5 tm L = false) := Lib.hid (by simp [mayO, hc])
        clear hc hbel
        go_wp2_with (first
          | ((with_reducible refine (HM.out _).mono ?_); rintro e w5 ⟨rfl, hb5⟩; have HB5 := Lib.hid (HB.out.trans (hb5.mono HB.out.size)); clear hb5)
          | fail)
        go_ret
        exact retB HF.out.symm (HB2.out.trans (HB5.out.mono HB2.out.size))
      · rw [hc] at HM
        have HC := Lib.hid hc
        clear hc hbel
        go_wp2_with (first
          | ((with_reducible refine (HM.out _).mono ?_); rintro e w5 ⟨rfl, hb5⟩; have HB5 := Lib.hid (HB.out.trans (hb5.mono HB.out.size)); clear hb5)
          | fail)
        go_roundw
        case rel => exact ⟨1, by decide, rfl, ⟨fun _ => (by first | trivial | exact HC.out), fun h => absurd h (by decide), fun h => absurd h (by decide), fun h => absurd h (by decide), fun h => absurd h (by decide)⟩, HB5.out⟩
        case measure => simp [intOf]
    · obtain ⟨n0, n1, n2, n3, n4⟩ := HNM.out _ hbel
      have HB := Lib.hid hbel
      have HM := Lib.hid (fun W => markName_any s1 W)
      cases hc : nameOk s1
      · rw [hc] at HM
        have HF : Hid (mayO s0 s1 s2 s3 s4 s5 tm L = false) := Lib.hid (by simp [mayO, hc])
        clear hc hbel
        go_wp2_with (first
          | ((with_reducible refine (HM.out _).mono ?_); rintro e w5 ⟨rfl, hb5⟩; have HB5 := Lib.hid (HB.out.trans (hb5.mono HB.out.size)); clear hb5)
          | fail)
        go_ret
        exact retB HF.out.symm (HB2.out.trans (HB5.out.mono HB2.out.size))
      · rw [hc] at HM
        have HC := Lib.hid hc
        clear hc hbel
        go_wp2_with (first
          | ((with_reducible refine (HM.out _).mono ?_); rintro e w5 ⟨rfl, hb5⟩; have HB5 := Lib.hid (HB.out.trans (hb5.mono HB.out.size)); clear hb5)
          | fail)
        go_roundw
        case rel => exact ⟨2, by decide, rfl, ⟨fun _ => HZ.out.1 (by decide), fun _ => (by first | trivial | exact HC.out), fun h => absurd h (by decide), fun h => absurd h (by decide), fun h => absurd h (by decide)⟩, HB5.out⟩
        case measure => simp [intOf]
    · obtain ⟨n0, n1, n2, n3, n4⟩ := HNM.out _ hbel
      have HB := Lib.hid hbel
      have HM := Lib.hid (fun W => markName_any s2 W)
      cases hc : nameOk s2
      · rw [hc] at HM
        have HF : Hid (mayO s0 s1 s2 s3 s4 s5 tm L = false) := Lib.hid (by simp [mayO, hc])
        clear hc hbel
        go_wp2_with (first
          | ((with_reducible refine (HM.out _).mono ?_); rintro e w5 ⟨rfl, hb5⟩; have HB5 := Lib.hid (HB.out.trans (hb5.mono HB.out.size)); clear hb5)
          | fail)
        go_ret
        exact retB HF.out.symm (HB2.out.trans (HB5.out.mono HB2.out.size))
      · rw [hc] at HM
        have HC := Lib.hid hc
        clear hc hbel
        go_wp2_with (first
          | ((with_reducible refine (HM.out _).mono ?_); rintro e w5 ⟨rfl, hb5⟩; have HB5 := Lib.hid (HB.out.trans (hb5.mono HB.out.size)); clear hb5)
          | fail)
        go_roundw
        case rel => exact ⟨3, by decide, rfl, ⟨fun _ => HZ.out.1 (by decide), fun _ => HZ.out.2.1 (by decide), fun _ => (by first | trivial | exact HC.out), fun h => absurd h (by decide), fun h => absurd h (by decide)⟩, HB5.out⟩
        case measure => simp [intOf]
    · obtain ⟨n0, n1, n2, n3, n4⟩ := HNM.out _ hbel
      have HB := Lib.hid hbel
      have HM := Lib.hid (fun W => markName_any s4 W)
      cases hc : nameOk s4
      · rw [hc] at HM
        have HF : Hid (mayO s0 s1 s2 s3 s4 s5 tm L = false) := Lib.hid (by simp [mayO, hc])
        clear hc hbel
        go_wp2_with (first
          | ((with_reducible refine (HM.out _).mono ?_); rintro e w5 ⟨rfl, hb5⟩; have HB5 := Lib.hid (HB.out.trans (hb5.mono HB.out.size)); clear hb5)
          | fail)
        go_ret
        exact retB HF.out.symm (HB2.out.trans (HB5.out.mono HB2.out.size))
      · rw [hc] at HM
        have HC := Lib.hid hc
        clear hc hbel
        go_wp2_with (first
          | ((with_reducible refine (HM.out _).mono ?_); rintro e w5 ⟨rfl, hb5⟩; have HB5 := Lib.hid (HB.out.trans (hb5.mono HB.out.size)); clear hb5)
          | fail)
        go_roundw
        case rel => exact ⟨4, by decide, rfl, ⟨fun _ => HZ.out.1 (by decide), fun _ => HZ.out.2.1 (by decide), fun _ => HZ.out.2.2.1 (by decide), fun _ => (by first | trivial | exact HC.out), fun h => absurd h (by decide)⟩, HB5.out⟩
        case measure => simp [intOf]
    · obtain ⟨n0, n1, n2, n3, n4⟩ := HNM.out _ hbel
      have HB := Lib.hid hbel
      have HM := Lib.hid (fun W => markName_any s5 W)
      cases hc : nameOk s5
      · rw [hc] at HM
        have HF : Hid (mayO s0 s1 s2 s3 s4 s5 tm L = false) := Lib.hid (by simp [mayO, hc])
        clear hc hbel
        go_wp2_with (first
          | ((with_reducible refine (HM.out _).mono ?_); rintro e w5 ⟨rfl, hb5⟩; have HB5 := Lib.hid (HB.out.trans (hb5.mono HB.out.size)); clear hb5)
          | fail)
        go_ret
        exact retB HF.out.symm (HB2.out.trans (HB5.out.mono HB2.out.size))
      · rw [hc] at HM
        have HC := Lib.hid hc
        clear hc hbel
        go_wp2_with (first
          | ((with_reducible refine (HM.out _).mono ?_); rintro e w5 ⟨rfl, hb5⟩; have HB5 := Lib.hid (HB.out.trans (hb5.mono HB.out.size)); clear hb5)
          | fail)
        go_roundw
        case rel => exact ⟨5, by decide, rfl, ⟨fun _ => HZ.out.1 (by decide), fun _ => HZ.out.2.1 (by decide), fun _ => HZ.out.2.2.1 (by decide), fun _ => HZ.out.2.2.2.1 (by decide), fun _ => (by first | trivial | exact HC.out)⟩, HB5.out⟩
        case measure => simp [intOf]
    · have HB := Lib.hid hbel
      obtain ⟨z0, z1, z2, z4, z5⟩ : nameOk s0 = true ∧ nameOk s1 = true ∧ nameOk s2 = true ∧ nameOk s4 = true ∧ nameOk s5 = true := ⟨HZ.out.1 (by decide), HZ.out.2.1 (by decide), HZ.out.2.2.1 (by decide), HZ.out.2.2.2.1 (by decide), HZ.out.2.2.2.2 (by decide)⟩
      have HMY : Hid (mayO s0 s1 s2 s3 s4 s5 tm L = (!decide (s1 = s2) && (curOk s3 && (decide (0 ≤ tm) && (decide (tm ≤ 7) && (decide (1 ≤ L.length) && (decide (L.length ≤ 64) && linesP [] L))))))) := Lib.hid (by simp [mayO, z0, z1, z2, z4, z5])
      have HBW : Hid (Below w.heap.size w wr) := Lib.hid (HB2.out.trans (HB.out.mono HB2.out.size))
      have HXW := Lib.hid (HXO.out _ hbel)
      have c1 := cell_blk HXW.out 1
      have c2 := cell_blk HXW.out 2
      have c3 := cell_blk HXW.out 3
      clear z0 z1 z2 z4 z5 HZ hbel hk HNM HXO
      by_cases h12 : s1 = s2
      · have t1 : (s1.toList == s2.toList) = true := by simp [h12]
        have HF : Hid (mayO s0 s1 s2 s3 s4 s5 tm L = false) := Lib.hid (by rw [HMY.out, decide_eq_true h12]; rfl)
        clear h12
        go_wp2_with fail
        go_ret
        exact retB HF.out.symm HBW.out
      have t1 : (s1.toList == s2.toList) = false := by rw [str_beq]; exact decide_eq_false h12
      have HM := Lib.hid (fun W => moneyC_any s3 W)
      rw [decide_eq_false h12] at HMY
      clear h12
      cases hc : curOk s3
      · rw [hc] at HM HMY
        clear hc
        go_wp2_with (first
          | ((with_reducible refine (HM.out _).mono ?_); rintro e w5 ⟨rfl, hb5⟩; have HB5 := Lib.hid (HBW.out.trans (hb5.mono HBW.out.size)); clear hb5)
          | fail)
        go_ret
        exact retB (by rw [HMY.out]; rfl) HB5.out
      rw [hc] at HM HMY
      clear hc
      go_upto_region 9 with (first
        | ((with_reducible refine (HM.out _).mono ?_); rintro e w5 ⟨rfl, hb5⟩; have HB5 := Lib.hid (HBW.out.trans (hb5.mono HBW.out.size)); have HX5 := Lib.hid (blk hb5 (lt_blk HXW.out) HXW.out); clear hb5)
        | fail)
      clear t1 c1 c2 c3
      have c6 := cell_blk HX5.out 6
      have c7 := cell_blk HX5.out 7
      by_cases ht : ¬ 0 ≤ tm
      · have t1 : decide (tm < 0) = true := decide_eq_true (by omega)
        have HF : Hid (mayO s0 s1 s2 s3 s4 s5 tm L = false) := Lib.hid (by rw [HMY.out, decide_eq_false ht]; rfl)
        clear ht
        go_wp2_with fail
        go_ret
        exact retB HF.out.symm HB5.out
      have ht := Decidable.not_not.1 ht
      have t1 : decide (tm < 0) = false := decide_eq_false (by omega)
      rw [decide_eq_true ht] at HMY
      clear ht
      by_cases ht : ¬ tm ≤ 7
      · have t2 : decide (7 < tm) = true := decide_eq_true (by omega)
        have HF : Hid (mayO s0 s1 s2 s3 s4 s5 tm L = false) := Lib.hid (by rw [HMY.out, decide_eq_false ht]; rfl)
        clear ht
        go_wp2_with fail
        go_ret
        exact retB HF.out.symm HB5.out
      have ht := Decidable.not_not.1 ht
      have t2 : decide (7 < tm) = false := decide_eq_false (by omega)
      rw [decide_eq_true ht] at HMY
      clear ht
      by_cases hl1 : ¬ 1 ≤ L.length
      · have t3 : decide ((L.length : Int) < 1) = true := decide_eq_true (by omega)
        have t4 : decide (L.length < 1) = true := decide_eq_true (by omega)
        have HF : Hid (mayO s0 s1 s2 s3 s4 s5 tm L = false) := Lib.hid (by rw [HMY.out, decide_eq_false hl1]; rfl)
        clear hl1
        go_wp2_with fail
        go_ret
        exact retB HF.out.symm HB5.out
      have hl1 := Decidable.not_not.1 hl1
      have t3 : decide ((L.length : Int) < 1) = false := decide_eq_false (by omega)
      have t4 : decide (L.length < 1) = false := decide_eq_false (by omega)
      rw [decide_eq_true hl1] at HMY
      by_cases hl2 : ¬ L.length ≤ 64
      · have t5 : decide (64 < (L.length : Int)) = true := decide_eq_true (by omega)
        have t6 : decide (64 < L.length) = true := decide_eq_true (by omega)
        have HF : Hid (mayO s0 s1 s2 s3 s4 s5 tm L = false) := Lib.hid (by rw [HMY.out, decide_eq_false hl2]; rfl)
        clear hl1 hl2
        go_wp2_with fail
        go_ret
        exact retB HF.out.symm HB5.out
      have hl2 := Decidable.not_not.1 hl2
      have t5 : decide (64 < (L.length : Int)) = false := decide_eq_false (by omega)
      have t6 : decide (64 < L.length) = false := decide_eq_false (by omega)
      rw [decide_eq_true hl2] at HMY
      have hll2 : L.length ≤ 64 := hl2
      have tm2 : ∀ W : World, (Instr.makeMap 81 (some (.int .i64 (L.length : Int)))).run Tryd.prog W = .ok (.map (some W.heap.size)) (W.alloc (.map #[] 0)) := fun W => by
        simp [Instr.makeMap, run_underlying Tryd.underlying81, asInt, asIntOf, Result.andThen]
      clear hl1 hl2 hll
      go_upto_region 14 with fail
      have HMA := Lib.hid (Mp.MapAt.made w5)
      have HBA := Lib.hid (HB5.out.trans ((one_below w5 (.map #[] 0)).mono HB5.out.size))
      have HXA := Lib.hid (blk (one_below w5 (.map #[] 0)) (lt_blk HX5.out) HX5.out)
      have HBM : Hid (w.heap.size ≤ w5.heap.size) := Lib.hid HB5.out.size
      generalize w5.alloc (.map #[] 0) = wm at *
      obtain ⟨bm, hbm⟩ : ∃ b, b = w5.heap.size := ⟨_, rfl⟩
      rw [← hbm] at HMA HBM ⊢
      clear hbm tm2 t1 t2 t3 t4 t5 t6 c6 c7
      have c7 := cell_blk HXA.out 7
      go_wp2_with fail
      clear c7
      go_loopw [7, 65] (fun _ i wr => ∃ k : Nat, k ≤ L.length ∧ i = .int .i64 k ∧ Mp.MapAt wr bm (entsO (L.take k)) ∧ linesP [] L = linesP (L.take k) (L.drop k) ∧ Below w.heap.size w wr) (fun _ i _ => L.length - (intOf i).toNat)
      case atStart => exact ⟨0, Nat.zero_le _, rfl, HMA.out, rfl, HBA.out⟩
      case round =>
        obtain ⟨k, hk, rfl, hm, hlp, hbel⟩ := hrel
        have HM := Lib.hid hm
        have HBE := Lib.hid hbel
        by_cases hlt : k < L.length
        · obtain ⟨b, off, rfl, hb, h0, h1, h2⟩ := ln_at HS.out hlt
          have d0 := (hbel.cell (p := ⟨b, off + k * 3, none⟩) hb).trans h0
          have d1 := (hbel.cell (p := ⟨b, off + k * 3 + 1, none⟩) hb).trans h1
          have d2 := (hbel.cell (p := ⟨b, off + k * 3 + 2, none⟩) hb).trans h2
          rw [linesP_at hlt] at hlp
          have HLP := Lib.hid hlp
          have HTK : Hid (L.take (k + 1) = L.take k ++ [L[k]]) := Lib.hid (List.take_succ_eq_append_getElem hlt)
          have HK := Lib.hid hlt
          have tk : ((k : Nat) : Int) < (L.length : Int) := by omega
          have HGV := Lib.hid (get_entsO L[k].good (L.take k))
          have HPP : Hid (((L.take k).any fun y => decide (y.good = L[k].good)) = false → Mp.mput (entsO (L.take k)) L[k].good (.bool true) = entsO (L.take k ++ [L[k]])) := Lib.hid (fun h => put_entsO h)
          generalize hE : entsO (L.take k) = E at *
          generalize hA : (L.take k).any (fun y => decide (y.good = L[k].good)) = A at *
          have HLN : Hid (lineP (L.take k) L[k] = (nameOk L[k].good && (!A && (cntO L[k].cnt && (decide (0 ≤ L[k].price) && decide (L[k].price ≤ 1073741824)))))) := Lib.hid (by rw [← hA]; rfl)
          generalize L[k] = x at *
          obtain ⟨xg, xc, xp⟩ := x
          simp only at d0 d1 d2
          have HN := Lib.hid (fun W => markName_any xg W)
          have HCN := Lib.hid (fun W => cnt_any xc W)
          have HXB := Lib.hid (heap_alloc_new wr (.cells #[.string xg, .int .i64 xc, .int .i64 xp] 34))
          have HBX := Lib.hid (one_below wr (.cells #[.string xg, .int .i64 xc, .int .i64 xp] 34))
          have HMX := Lib.hid (HM.out.same (HBX.out.block bm HM.out.lt))
          have HRF : Hid (lineP (L.take k) ⟨xg, xc, xp⟩ = false → mayO s0 s1 s2 s3 s4 s5 tm L = false) := Lib.hid (fun h => by rw [HMY.out, HLP.out, h]; rfl)
          clear h0 h1 h2 hb hbel hm hlp hE hA hk hlt
          cases hn : nameOk xg
          · rw [hn] at HN
            have HF := Lib.hid (HRF.out (by rw [HLN.out, hn]; rfl))
            clear hn
            go_wp2_with (first
              | ((with_reducible refine (HN.out _).mono ?_); rintro e w6 ⟨rfl, hb6⟩; have HB6 := Lib.hid (HBX.out.trans (hb6.mono HBX.out.size)); have HX6 := Lib.hid (blk hb6 (lt_blk HXB.out) HXB.out); have HM6 := Lib.hid (HMX.out.same (hb6.block bm HMX.out.lt)); clear hb6; have e0 := cell_blk HX6.out 0; have e1 := cell_blk HX6.out 1)
              | fail)
            go_ret
            exact retB HF.out.symm (HBE.out.trans (HB6.out.mono HBE.out.size))
          rw [hn] at HN HLN
          clear hn
          by_cases hA : A = true
          · subst hA
            have HF := Lib.hid (HRF.out (by rw [HLN.out]; rfl))
            go_wp2_with (first
              | ((with_reducible refine (HN.out _).mono ?_); rintro e w6 ⟨rfl, hb6⟩; have HB6 := Lib.hid (HBX.out.trans (hb6.mono HBX.out.size)); have HX6 := Lib.hid (blk hb6 (lt_blk HXB.out) HXB.out); have HM6 := Lib.hid (HMX.out.same (hb6.block bm HMX.out.lt)); clear hb6; have e0 := cell_blk HX6.out 0; have e1 := cell_blk HX6.out 1)
              | ((with_reducible refine Mp.wpl_val (b := bm) (l := E) (key := xg) (v := .bool true) ?_ ?_ ?_ Tryd.underlying81 Tryd.underlying9 (zeroBoolO _) HM6.out HGV.out ?_); rfl; rfl; rfl)
              | fail)
            go_ret
            exact retB HF.out.symm (HBE.out.trans (HB6.out.mono HBE.out.size))
          obtain rfl : A = false := by simpa using hA
          clear hA
          have HPU : Hid (Mp.mput E xg (.bool true) = entsO (L.take (k + 1))) := Lib.hid (by rw [HTK.out]; exact HPP.out rfl)
          cases hc : cntO xc
          · rw [hc] at HCN
            have HF := Lib.hid (HRF.out (by rw [HLN.out, hc]; rfl))
            clear hc
            go_wp2_with (first
              | ((with_reducible refine (HN.out _).mono ?_); rintro e w6 ⟨rfl, hb6⟩; have HB6 := Lib.hid (HBX.out.trans (hb6.mono HBX.out.size)); have HX6 := Lib.hid (blk hb6 (lt_blk HXB.out) HXB.out); have HM6 := Lib.hid (HMX.out.same (hb6.block bm HMX.out.lt)); clear hb6; have e0 := cell_blk HX6.out 0; have e1 := cell_blk HX6.out 1)
              | ((with_reducible refine Mp.wpl_val (b := bm) (l := E) (key := xg) (v := .bool false) ?_ ?_ ?_ Tryd.underlying81 Tryd.underlying9 (zeroBoolO _) HM6.out HGV.out ?_); rfl; rfl; rfl)
              | ((with_reducible refine (HCN.out _).mono ?_); rintro e w7 ⟨rfl, hb7⟩; have HB7 := Lib.hid (HB6.out.trans (hb7.mono HB6.out.size)); have HX7 := Lib.hid (blk hb7 (lt_blk HX6.out) HX6.out); have HM7 := Lib.hid (HM6.out.same (hb7.block bm HM6.out.lt)); clear hb7; have q0 := cell_blk HX7.out 0; have q2 := cell_blk HX7.out 2)
              | fail)
            go_ret
            exact retB HF.out.symm (HBE.out.trans (HB7.out.mono HBE.out.size))
          rw [hc] at HCN HLN
          clear hc
          by_cases hp : ¬ 0 ≤ xp
          · have t1 : decide (xp < 0) = true := decide_eq_true (by omega)
            have HF := Lib.hid (HRF.out (by rw [HLN.out, decide_eq_false hp]; rfl))
            clear hp
            go_wp2_with (first
              | ((with_reducible refine (HN.out _).mono ?_); rintro e w6 ⟨rfl, hb6⟩; have HB6 := Lib.hid (HBX.out.trans (hb6.mono HBX.out.size)); have HX6 := Lib.hid (blk hb6 (lt_blk HXB.out) HXB.out); have HM6 := Lib.hid (HMX.out.same (hb6.block bm HMX.out.lt)); clear hb6; have e0 := cell_blk HX6.out 0; have e1 := cell_blk HX6.out 1)
              | ((with_reducible refine Mp.wpl_val (b := bm) (l := E) (key := xg) (v := .bool false) ?_ ?_ ?_ Tryd.underlying81 Tryd.underlying9 (zeroBoolO _) HM6.out HGV.out ?_); rfl; rfl; rfl)
              | ((with_reducible refine (HCN.out _).mono ?_); rintro e w7 ⟨rfl, hb7⟩; have HB7 := Lib.hid (HB6.out.trans (hb7.mono HB6.out.size)); have HX7 := Lib.hid (blk hb7 (lt_blk HX6.out) HX6.out); have HM7 := Lib.hid (HM6.out.same (hb7.block bm HM6.out.lt)); clear hb7; have q0 := cell_blk HX7.out 0; have q2 := cell_blk HX7.out 2)
              | fail)
            go_ret
            exact retB HF.out.symm (HBE.out.trans (HB7.out.mono HBE.out.size))
          have hp := Decidable.not_not.1 hp
          have t1 : decide (xp < 0) = false := decide_eq_false (by omega)
          rw [decide_eq_true hp] at HLN
          clear hp
          by_cases hp : ¬ xp ≤ 1073741824
          · have t2 : decide (1073741824 < xp) = true := decide_eq_true (by omega)
            have HF := Lib.hid (HRF.out (by rw [HLN.out, decide_eq_false hp]; rfl))
            clear hp
            go_wp2_with (first
              | ((with_reducible refine (HN.out _).mono ?_); rintro e w6 ⟨rfl, hb6⟩; have HB6 := Lib.hid (HBX.out.trans (hb6.mono HBX.out.size)); have HX6 := Lib.hid (blk hb6 (lt_blk HXB.out) HXB.out); have HM6 := Lib.hid (HMX.out.same (hb6.block bm HMX.out.lt)); clear hb6; have e0 := cell_blk HX6.out 0; have e1 := cell_blk HX6.out 1)
              | ((with_reducible refine Mp.wpl_val (b := bm) (l := E) (key := xg) (v := .bool false) ?_ ?_ ?_ Tryd.underlying81 Tryd.underlying9 (zeroBoolO _) HM6.out HGV.out ?_); rfl; rfl; rfl)
              | ((with_reducible refine (HCN.out _).mono ?_); rintro e w7 ⟨rfl, hb7⟩; have HB7 := Lib.hid (HB6.out.trans (hb7.mono HB6.out.size)); have HX7 := Lib.hid (blk hb7 (lt_blk HX6.out) HX6.out); have HM7 := Lib.hid (HM6.out.same (hb7.block bm HM6.out.lt)); clear hb7; have q0 := cell_blk HX7.out 0; have q2 := cell_blk HX7.out 2)
              | fail)
            go_ret
            exact retB HF.out.symm (HBE.out.trans (HB7.out.mono HBE.out.size))
          have hp := Decidable.not_not.1 hp
          have t2 : decide (1073741824 < xp) = false := decide_eq_false (by omega)
          rw [decide_eq_true hp] at HLN
          clear hp
          go_wp2_with (first
            | ((with_reducible refine (HN.out _).mono ?_); rintro e w6 ⟨rfl, hb6⟩; have HB6 := Lib.hid (HBX.out.trans (hb6.mono HBX.out.size)); have HX6 := Lib.hid (blk hb6 (lt_blk HXB.out) HXB.out); have HM6 := Lib.hid (HMX.out.same (hb6.block bm HMX.out.lt)); clear hb6; have e0 := cell_blk HX6.out 0; have e1 := cell_blk HX6.out 1)
            | ((with_reducible refine Mp.wpl_val (b := bm) (l := E) (key := xg) (v := .bool false) ?_ ?_ ?_ Tryd.underlying81 Tryd.underlying9 (zeroBoolO _) HM6.out HGV.out ?_); rfl; rfl; rfl)
            | ((with_reducible refine (HCN.out _).mono ?_); rintro e w7 ⟨rfl, hb7⟩; have HB7 := Lib.hid (HB6.out.trans (hb7.mono HB6.out.size)); have HX7 := Lib.hid (blk hb7 (lt_blk HX6.out) HX6.out); have HM7 := Lib.hid (HM6.out.same (hb7.block bm HM6.out.lt)); clear hb7; have q0 := cell_blk HX7.out 0; have q2 := cell_blk HX7.out 2)
            | ((with_reducible refine Mp.wpl_update (b := bm) (l := E) (key := xg) (v := .bool true) ?_ ?_ ?_ ?_ Tryd.underlying81 Tryd.underlying9 HM7.out ?_); rfl; rfl; rfl; rfl; intro w8 hm8 hg8 hz8; have HM8 := Lib.hid (HPU.out ▸ hm8); have HB8 := Lib.hid ((HBE.out.trans (HB7.out.mono HBE.out.size)).grown hg8 (Nat.le_trans HBE.out.size HB7.out.size) (fun j hj => by obtain rfl : bm = j := Option.some.inj hj; exact HBM.out)); clear hm8 hg8 hz8; go_frame)
            | fail)
          go_roundw
          case rel => exact ⟨k + 1, by have := HK.out; omega, by go_num, HM8.out, by rw [HLP.out, HLN.out]; rfl, HB8.out⟩
          case measure => (have := HK.out; simp [intOf]) <;> omega
        · have hkl : k = L.length := by omega
          have HF : Hid (mayO s0 s1 s2 s3 s4 s5 tm L = true) := Lib.hid (by
            rw [HMY.out, hlp, hkl, List.drop_length]
            rfl)
          have tk : ¬ (((k : Nat) : Int) < (L.length : Int)) := by omega
          clear hm hlp hbel hk hlt hkl
          go_wp2_with fail
          go_ret
          exact retB HF.out.symm HBE.out
end Go.Proofs.YtnbhneeohkfocaaDoor.Sc
namespace Go.Proofs.YtnbhneeohkfocaaDoor.Sc
open Go Go.RowKit Go.ChangeShapes Go.WideShapes Go.ChangeAt
set_option maxRecDepth 100000

/-- Lines that may be. -/
structure LnsOk (L : List Ln) : Prop where
  nm : ∀ x ∈ L, nameOk x.good = true
  c0 : ∀ x ∈ L, 1 ≤ x.cnt ∧ x.cnt ≤ 1048576
  p0 : ∀ x ∈ L, 0 ≤ x.price ∧ x.price ≤ 1073741824
  nd : (L.map Ln.good).Nodup
  lo : 1 ≤ L.length
  hi : L.length ≤ 64
theorem linesP_ok : ∀ {L pre : List Ln}, linesP pre L = true → (pre.map Ln.good).Nodup → (∀ x ∈ L, nameOk x.good = true ∧ (1 ≤ x.cnt ∧ x.cnt ≤ 1048576) ∧ 0 ≤ x.price ∧ x.price ≤ 1073741824) ∧ ((pre ++ L).map Ln.good).Nodup
  | [], pre, _, hn => ⟨by simp, by simpa using hn⟩
  | x :: r, pre, h, hn => by
    rw [linesP, Bool.and_eq_true] at h
    obtain ⟨h1, h2⟩ := h
    unfold lineP cntO at h1
    simp only [Bool.and_eq_true, Bool.not_eq_true', decide_eq_true_eq] at h1
    obtain ⟨a1, a2, ⟨a3, a4⟩, a5, a6⟩ := h1
    have hn2 : ((pre ++ [x]).map Ln.good).Nodup := by
      rw [List.map_append, List.map_cons, List.map_nil, List.nodup_append]
      refine ⟨hn, by simp, fun a ha b hb e => ?_⟩
      obtain ⟨y, hy, rfl⟩ := List.mem_map.1 ha
      rw [List.mem_singleton] at hb
      subst hb
      rw [List.any_eq_false] at a2
      exact a2 y hy (decide_eq_true e)
    obtain ⟨i1, i2⟩ := linesP_ok h2 hn2
    refine ⟨fun y hy => ?_, by simpa using i2⟩
    rcases List.mem_cons.1 hy with rfl | hy
    · exact ⟨a1, ⟨a3, a4⟩, a5, a6⟩
    · exact i1 y hy
theorem mayO_ok {s0 s1 s2 s3 s4 s5 : ByteArray} {tm : Int} {L : List Ln} (h : mayO s0 s1 s2 s3 s4 s5 tm L = true) : LnsOk L ∧ nameOk s0 = true ∧ 0 ≤ tm ∧ tm ≤ 7 := by
  unfold mayO at h
  simp only [Bool.and_eq_true, Bool.not_eq_true', decide_eq_true_eq] at h
  obtain ⟨h0, -, -, -, -, -, -, h7, h8, h9, h10, h11⟩ := h
  obtain ⟨i1, i2⟩ := linesP_ok (pre := []) h11 List.nodup_nil
  exact ⟨⟨fun x hx => (i1 x hx).1, fun x hx => (i1 x hx).2.1, fun x hx => (i1 x hx).2.2, i2, h9, h10⟩, h0, h7, h8⟩
def Ln.worth (x : Ln) : Int := x.cnt * x.price
def totO : List Ln → Int
  | [] => 0
  | x :: r => x.worth + totO r
theorem totO_app (a b : List Ln) : totO (a ++ b) = totO a + totO b := by
  induction a with
  | nil => simp [totO]
  | cons x r ih => rw [List.cons_append, totO, totO, ih]; omega
theorem worth_le {x : Ln} (hc : 1 ≤ x.cnt ∧ x.cnt ≤ 1048576) (hp : 0 ≤ x.price ∧ x.price ≤ 1073741824) : 0 ≤ x.worth ∧ x.worth ≤ 1125899906842624 := by
  unfold Ln.worth
  refine ⟨Int.mul_nonneg (by omega) hp.1, ?_⟩
  have h1 : x.cnt * x.price ≤ 1048576 * x.price := Int.mul_le_mul_of_nonneg_right hc.2 hp.1
  have h2 : (1048576 : Int) * x.price ≤ 1048576 * 1073741824 := Int.mul_le_mul_of_nonneg_left hp.2 (by decide)
  omega
theorem totO_le : ∀ {L : List Ln}, (∀ x ∈ L, 0 ≤ x.worth ∧ x.worth ≤ 1125899906842624) → 0 ≤ totO L ∧ totO L ≤ 1125899906842624 * (L.length : Int)
  | [], _ => by simp [totO]
  | x :: r, h => by
    have h1 := h x List.mem_cons_self
    have h2 := totO_le fun y hy => h y (List.mem_cons_of_mem _ hy)
    rw [totO, List.length_cons]
    omega
/-- What Total tells. -/
def totE (b : Bool) (L : List Ln) : Int × Int := if b = false then (0, 1) else if 1099511627776 < totO L then (0, 3) else (totO L, 0)
set_option maxHeartbeats 8000000 in
theorem total_any (s0 s1 s2 s3 s4 s5 : ByteArray) (tm : Int) (L : List Ln) (v : Value) (w : World) (hs : Sl w 3 v (L.map Ln.row)) :
    Calls Tryd.prog 6 #[.agg #[.string s0, .string s1, .string s2, .string s3, .string s4, .string s5, .int .i64 tm, v]] w
      (Ret w (.tuple #[.int .i64 (totE (mayO s0 s1 s2 s3 s4 s5 tm L) L).1, .int .i64 (totE (mayO s0 s1 s2 s3 s4 s5 tm L) L).2])) := by
  obtain ⟨a, c, rfl⟩ : ∃ a c, v = .slice a L.length c := by simpa using hs.shape
  have HBX := Lib.hid (one_below w (.cells #[.string s0, .string s1, .string s2, .string s3, .string s4, .string s5, .int .i64 tm, .slice a L.length c] 24))
  have HXB := Lib.hid (heap_alloc_new w (.cells #[.string s0, .string s1, .string s2, .string s3, .string s4, .string s5, .int .i64 tm, .slice a L.length c] 24))
  have HS := Lib.hid hs
  have HM := Lib.hid (may_any s0 s1 s2 s3 s4 s5 tm L _ (w.alloc (.cells #[.string s0, .string s1, .string s2, .string s3, .string s4, .string s5, .int .i64 tm, .slice a L.length c] 24)) (hs.below HBX.out (Nat.le_refl _)))
  have HK := Lib.hid (fun h => mayO_ok (s0 := s0) (s1 := s1) (s2 := s2) (s3 := s3) (s4 := s4) (s5 := s5) (tm := tm) (L := L) h)
  clear hs
  generalize mayO s0 s1 s2 s3 s4 s5 tm L = mb at *
  cases mb
  · go_enter Tryd.func6, Tryd.ntmps6
    go_wp2_with (first
      | ((with_reducible refine HM.out.mono ?_); rintro e w5 ⟨rfl, hb5⟩; have HB5 := Lib.hid (HBX.out.trans (hb5.mono HBX.out.size)); clear hb5)
      | fail)
    go_ret2
    exact ⟨rfl, HB5.out⟩
  · obtain ⟨hok, -⟩ := HK.out rfl
    have HOK := Lib.hid hok
    have hl64 := hok.hi
    clear hok HK
    go_enter Tryd.func6, Tryd.ntmps6
    go_wp2_with (first
      | ((with_reducible refine HM.out.mono ?_); rintro e w5 ⟨rfl, hb5⟩; have HB5 := Lib.hid (HBX.out.trans (hb5.mono HBX.out.size)); have c7 := cell_blk (blk hb5 (lt_blk HXB.out) HXB.out) 7; clear hb5)
      | fail)
    clear c7
    go_loopw [4, 6, 13] (fun s _ i wr => ∃ k : Nat, k ≤ L.length ∧ i = .int .i64 k ∧ s = .int .i64 (totO (L.take k)) ∧ Below w.heap.size w wr) (fun _ _ i _ => L.length - (intOf i).toNat)
    case atStart => exact ⟨0, Nat.zero_le _, rfl, rfl, HB5.out⟩
    case round =>
      obtain ⟨k, hk, rfl, rfl, hbel⟩ := hrel
      have HBE := Lib.hid hbel
      by_cases hlt : k < L.length
      · obtain ⟨b, off, rfl, hb, h0, h1, h2⟩ := ln_at HS.out hlt
        have d0 := (hbel.cell (p := ⟨b, off + k * 3, none⟩) hb).trans h0
        have d1 := (hbel.cell (p := ⟨b, off + k * 3 + 1, none⟩) hb).trans h1
        have d2 := (hbel.cell (p := ⟨b, off + k * 3 + 2, none⟩) hb).trans h2
        have tk : ((k : Nat) : Int) < (L.length : Int) := by omega
        have hw := worth_le (HOK.out.c0 _ (List.getElem_mem hlt)) (HOK.out.p0 _ (List.getElem_mem hlt))
        have ht := totO_le (L := L.take k) (fun x hx => worth_le (HOK.out.c0 _ (List.mem_of_mem_take hx)) (HOK.out.p0 _ (List.mem_of_mem_take hx)))
        have hlk : ((L.take k).length : Int) ≤ 64 := by simp; omega
        have HTK : Hid (totO (L.take (k + 1)) = totO (L.take k) + L[k].worth) := Lib.hid (by rw [List.take_succ_eq_append_getElem hlt, totO_app]; simp [totO])
        have HKK := Lib.hid hlt
        generalize L[k] = x at *
        obtain ⟨xg, xc, xp⟩ := x
        simp only [Ln.worth] at d0 d1 d2 hw HTK
        generalize totO (L.take k) = s at *
        obtain ⟨m, hm⟩ : ∃ m, xc * xp = m := ⟨_, rfl⟩
        rw [hm] at hw HTK
        have e1 : wrap64 (xc * xp) = m := by rw [hm]; exact IntWalk.wrap64_in _ (by omega)
        have e2 : wrap64 (s + m) = s + m := IntWalk.wrap64_in _ (by omega)
        have HE2 := Lib.hid e2
        clear h0 h1 h2 hb hbel hk hlt hw ht hlk hm
        go_wp2_with fail
        go_roundw
        case rel => exact ⟨k + 1, by have := HKK.out; omega, by go_num, by first | (rw [HTK.out, HE2.out]) | rw [HTK.out], HBE.out.trans ((one_below _ _).mono HBE.out.size)⟩
        case measure => (have := HKK.out; simp [intOf]) <;> omega
      · have hkl : k = L.length := by omega
        have tk : ¬ (((k : Nat) : Int) < (L.length : Int)) := by omega
        rw [hkl, List.take_length]
        have HT : Hid (totE true L = if 1099511627776 < totO L then (0, 3) else (totO L, 0)) := Lib.hid rfl
        generalize totE true L = te at *
        generalize totO L = T at *
        clear hk hlt hbel hkl
        by_cases h : 1099511627776 < T
        · have t1 : decide (1099511627776 < T) = true := decide_eq_true h
          rw [if_pos h] at HT
          clear h
          go_wp2_with fail
          go_ret2
          exact ⟨by rw [HT.out]; rfl, HBE.out⟩
        · have t1 : decide (1099511627776 < T) = false := decide_eq_false h
          rw [if_neg h] at HT
          clear h
          go_wp2_with fail
          go_ret2
          exact ⟨by rw [HT.out]; rfl, HBE.out⟩
end Go.Proofs.YtnbhneeohkfocaaDoor.Sc
namespace Go.Proofs.YtnbhneeohkfocaaDoor.Sc
open Go Go.RowKit Go.ChangeShapes Go.WideShapes Go.ChangeAt
set_option maxRecDepth 100000

section
variable {nm : Nat → ByteArray} {co ri : Nat → Int}
def buyC (co : Nat → Int) (t : Nat) (l : List Cst) : List Cst := l.filter fun x => decide (co t ≤ x.stg)
/-- What Split tells. -/
def SpcP (w : World) (co : Nat → Int) (t : Nat) (l : List Cst) (e : Ending) (w' : World) : Prop :=
  (l.all mayC = true ∧ ∃ v1 v2, e = .returned (.tuple #[v1, v2, .int .i64 0]) ∧ Sl w' 3 v2 ((buyC co t l).map Cst.row) ∧ Below w.heap.size w w') ∨
    (l.all mayC = false ∧ e = .returned (.tuple #[.slice none 0 0, .slice none 0 0, .int .i64 1]) ∧ Below w.heap.size w w')
set_option maxHeartbeats 4000000 in
theorem splitC_any (t : Nat) (ht : t < 8) (hnm : (nm t).toList.isEmpty = false) (l : List Cst) (v : Value) (w : World) (hs : Sl w 3 v (l.map Cst.row)) (hl : l.length ≤ 12) (h : TmW w nm co ri) :
    Calls Tryd.prog 51 #[.int .i64 (t : Int), v] w (SpcP w co t l) := by
  obtain ⟨a, c, rfl⟩ : ∃ a c, v = .slice a l.length c := by simpa using hs.shape
  have HBX := Lib.hid (one_below w (.cells #[.int .i64 (t : Int)] 3))
  have HXB := Lib.hid (heap_alloc_new w (.cells #[.int .i64 (t : Int)] 3))
  have HN := Lib.hid (name_any (nm := nm) (co := co) (ri := ri) t ht _ (h.below HBX.out))
  have HA := Lib.hid (allMay_any l _ _ (hs.below HBX.out (Nat.le_refl _)))
  have eg : ∀ args w, (callFunc 72 args).run Tryd.prog w = .ok (.enter 72 args) w := enters_of Tryd.func72 (by kernel_rfl) rfl
  have HSO := Lib.hid (fun (hok : ∀ x ∈ l, mayC x = true) W (hb : Below (w.alloc (.cells #[.int .i64 (t : Int)] 3)).heap.size (w.alloc (.cells #[.int .i64 (t : Int)] 3)) W) => sortedC_any (fun x => decide (co t ≤ x.stg)) 72 #[.pointer (some ⟨w.heap.size, 0, none⟩)] l _ W ((hs.below HBX.out (Nat.le_refl _)).below hb (Nat.le_refl _)) hl eg
    (fun W' x hx hb' => buyers_any (nm := nm) (co := co) (ri := ri) t ht x (hok x hx) w.heap.size W' (cell_blk (blk (hb.trans (hb'.mono hb.size)) (lt_blk HXB.out) HXB.out) 0) (((h.below HBX.out).below hb).below hb')))
  have HOK : Hid (l.all mayC = true → ∀ x ∈ l, mayC x = true) := Lib.hid (fun h => List.all_eq_true.1 h)
  have t9 : decide ((4096 : Int) < (l.length : Int)) = false := decide_eq_false (by omega)
  have t8 : decide (4096 < l.length) = false := decide_eq_false (by omega)
  have t1 : ((nm t).toList == (⟨#[]⟩ : ByteArray).toList) = false := by
    rw [str_beq]
    refine decide_eq_false fun e => ?_
    rw [e] at hnm
    revert hnm
    rw [ByteArray.toList_eq]
    decide
  clear hs h ht eg hl
  generalize hal : l.all mayC = r at *
  have HAL := Lib.hid hal
  clear hal
  cases r
  · go_enter Tryd.func51, Tryd.ntmps51
    go_wp2_with (first
      | ((with_reducible refine HN.out.mono ?_); rintro e w1 ⟨rfl, rfl⟩)
      | ((with_reducible refine HA.out.mono ?_); rintro e w2 ⟨rfl, hb2⟩; have HB2 := Lib.hid (HBX.out.trans (hb2.mono HBX.out.size)); clear hb2)
      | fail)
    go_ret3
    exact .inr ⟨HAL.out, rfl, HB2.out⟩
  · go_enter Tryd.func51, Tryd.ntmps51
    go_wp2_with (first
      | ((with_reducible refine HN.out.mono ?_); rintro e w1 ⟨rfl, rfl⟩)
      | ((with_reducible refine HA.out.mono ?_); rintro e w2 ⟨rfl, hb2⟩; have HB2 := Lib.hid (HBX.out.trans (hb2.mono HBX.out.size)); have HBB := Lib.hid hb2; clear hb2)
      | ((with_reducible refine (HSO.out (HOK.out (by trivial)) _ HBB.out).mono ?_); rintro e w3 ⟨v1, v2, rfl, hs1, hs2, hb3⟩; have HS3 := Lib.hid hs1; have HB3 := Lib.hid (HB2.out.trans (hb3.mono HB2.out.size)); clear hb3 hs1 hs2)
      | fail)
    go_ret3
    exact .inl ⟨HAL.out, v2, v1, rfl, HS3.out, HB3.out⟩
end
end Go.Proofs.YtnbhneeohkfocaaDoor.Sc
