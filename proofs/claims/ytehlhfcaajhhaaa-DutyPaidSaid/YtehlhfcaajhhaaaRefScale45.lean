/- Scale of the reference: the same as the program's. Reduce: whether a fraction may be. -/
import Derived.Test.YtehlhfcaajhhaaaParts45
import Derived.Test.YtehlhfcaajhhaaaScale45
namespace Go.Proofs.Ytehlhfcaajhhaaa.Sc
open Go Go.RowKit Go.ChangeShapes Go.WideShapes Go.ChangeAt
set_option maxRecDepth 100000

theorem parts_yes (n m d : Int) (w : World) (h0 : 0 ≤ n) (h1 : n ≤ 1099511627776) (hm : 0 ≤ m) (m1 : m ≤ 9223372036854775807) (hdd : 1 ≤ d) (d1 : d ≤ 9223372036854775807) (h : ¬ 2199023255552 < n * m / d) :
    Calls Try.prog 56 #[.int .i64 n, .int .i64 m, .int .i64 d] w (Ret w (.tuple #[.int .i64 (n * m / d), .int .i64 (n * m % d)])) := by
  refine (parts_any n m d w h0 h1 hm m1 hdd d1).mono ?_
  rintro e w' ⟨q, r, rfl, ⟨rfl, rfl, -⟩ | ⟨-, -, h2⟩, hb⟩
  · exact ⟨rfl, hb⟩
  · exact absurd h2 h
theorem parts_no (n m d : Int) (w : World) (h0 : 0 ≤ n) (h1 : n ≤ 1099511627776) (hm : 0 ≤ m) (m1 : m ≤ 9223372036854775807) (hdd : 1 ≤ d) (d1 : d ≤ 9223372036854775807) (h : 2199023255552 < n * m / d) :
    Calls Try.prog 56 #[.int .i64 n, .int .i64 m, .int .i64 d] w (Ret w (.tuple #[.int .i64 (-1), .int .i64 0])) := by
  refine (parts_any n m d w h0 h1 hm m1 hdd d1).mono ?_
  rintro e w' ⟨q, r, rfl, ⟨rfl, rfl, h2⟩ | ⟨rfl, rfl, -⟩, hb⟩
  · omega
  · exact ⟨rfl, hb⟩
set_option maxHeartbeats 4000000 in
theorem refScale_any (A N D : Nat) (w : World) (ha : A ≤ 1099511627776) (hn : N ≤ 9223372036854775807) (hd : 1 ≤ D) (hd2 : D ≤ 9223372036854775807) :
    Calls Try.prog 35 #[.agg #[.string ⟨#[85, 83, 68]⟩, .int .i64 A], .agg #[.int .i64 N, .int .i64 D], .int .i64 1] w (Ret w (scaleV A N D)) := by
  obtain ⟨w0, hw0⟩ : ∃ x, x = ((w.alloc (.cells #[.string ⟨#[85, 83, 68]⟩, .int .i64 A] 80)).alloc (.cells #[.int .i64 N, .int .i64 D] 65)).alloc (.cells #[.string ⟨#[]⟩, .int .i64 0] 80) := ⟨_, rfl⟩
  have HB0 : Hid (Below w.heap.size w w0) := Lib.hid (hw0 ▸ (((Below.refl _ _).alloc (Nat.le_refl _) _).alloc (by simp) _).alloc (by simp; omega) _)
  have HZ0 : Hid (w0.heap.size = w.heap.size + 3) := Lib.hid (by rw [hw0]; simp)
  have HM0 : Hid (∀ W, Below w0.heap.size w0 W → Mny W w.heap.size A N D) := Lib.hid (fun W h => by
    have hz := HZ0.out
    obtain ⟨p1, p2, p3⟩ := three_blocks w (.cells #[.string ⟨#[85, 83, 68]⟩, .int .i64 A] 80) (.cells #[.int .i64 N, .int .i64 D] 65) (.cells #[.string ⟨#[]⟩, .int .i64 0] 80)
    rw [← hw0] at p1 p2 p3
    refine mny_of (T1 := 80) (T2 := 65) (T3 := 80) ((h.block _ (by omega)).trans p1) ((h.block _ (by omega)).trans p2) ((h.block _ (by omega)).trans p3))
  have MY : Hid (∀ W, Calls Try.prog 55 #[.agg #[.string ⟨#[85, 83, 68]⟩, .int .i64 A]] W (RetB W true)) := Lib.hid (fun W => by have := refMay_usd A W; rwa [show amtOk (A : Int) = true by simp [amtOk]; omega] at this)
  have IR : Hid (∀ W, Calls Try.prog 32 #[.agg #[.int .i64 N, .int .i64 D]] W (RetB W true)) := Lib.hid (fun W => by have := refRight_any N D W; rwa [show ratOk (N : Int) D = true by simp [ratOk]; omega] at this)
  have MQ := Lib.hid (fun q W => refMay_usd q W)
  have ta : decide ((A : Int) < 0) = false := decide_eq_false (by omega)
  have HQ := Lib.hid (quo_of A N D (by omega))
  have HCL := Lib.hid (ceil_quo HQ.out (by omega))
  obtain ⟨v, hv⟩ : ∃ v, v = scaleV A N D := ⟨_, rfl⟩
  rw [← hv]
  have HV := Lib.hid hv
  have HNO : Hid (¬ ceilq A N D ≤ 1099511627776 → v = .tuple #[.agg #[.string ⟨#[]⟩, .int .i64 0], .bool false]) := Lib.hid (fun h => by rw [HV.out, scaleV, if_neg h])
  have HYES : Hid (ceilq A N D ≤ 1099511627776 → v = .tuple #[.agg #[.string ⟨#[85, 83, 68]⟩, .int .i64 (ceilq A N D)], .bool true]) := Lib.hid (fun h => by rw [HV.out, scaleV, if_pos h])
  have PY := Lib.hid (fun W (h : ¬ 2199023255552 < (A : Int) * N / D) => parts_yes A N D W (by omega) (by omega) (by omega) (by omega) (by omega) (by omega) h)
  have PN := Lib.hid (fun W (h : 2199023255552 < (A : Int) * N / D) => parts_no A N D W (by omega) (by omega) (by omega) (by omega) (by omega) (by omega) h)
  have hq0 : 0 ≤ (A : Int) * N / D := Int.ediv_nonneg (Int.mul_nonneg (by omega) (by omega)) (by omega)
  generalize (A : Int) * N / D = zq at *
  generalize (A : Int) * N % D = zr at *
  have hr0 := HQ.out.r0
  clear hv ha hn hd hd2
  by_cases h1 : 2199023255552 < zq
  · obtain ⟨z, hz⟩ : ∃ z : Int, z = -1 := ⟨_, rfl⟩
    have PP := Lib.hid (fun W => PN.out W h1)
    rw [← hz] at PP
    have tz : decide (z < 0) = true := decide_eq_true (by omega)
    have HVV := Lib.hid (HNO.out (by rw [HCL.out]; split <;> omega))
    have MQQ : Hid True := Lib.hid trivial
    clear hz h1 hq0 hr0
    go_enter Try.func35, Try.ntmps35
    go_wp2_with fail
    rw [← hw0]
    clear hw0
    go_wp2_with (first
      | ((with_reducible refine (MY.out _).mono ?_); rintro e w2 ⟨rfl, hb2⟩; have HB2 := Lib.hid hb2; obtain ⟨m0, m1, r0, r1, -, -, -, -⟩ := HM0.out _ HB2.out; clear hb2)
      | ((with_reducible refine (IR.out _).mono ?_); rintro e w4 ⟨rfl, hb4⟩; have HB4 := Lib.hid (below_then HB2.out hb4); obtain ⟨m0, m1, r0, r1, -, -, -, -⟩ := HM0.out _ HB4.out; clear hb4)
      | ((with_reducible refine (PP.out _).mono ?_); rintro e w6 ⟨rfl, hb6⟩; have HB6 := Lib.hid (below_then HB4.out hb6); obtain ⟨m0, m1, r0, r1, z0, z1, g0, g1⟩ := HM0.out _ HB6.out; have HNE : Hid (¬ w.heap.size + 1 + 1 = w6.heap.size) := Lib.hid (by have := HB6.out.size; have := HZ0.out; omega); clear hb6)
      | (fail; (with_reducible refine (MQ.out 0 _).mono ?_); rintro e w8 ⟨rfl, hb8⟩; have HB8 := Lib.hid (HB6.out.trans ((below_new hb8).mono HB6.out.size)); have HX8 := Lib.hid (blk hb8 (by simp) (heap_alloc_new w6 _)); obtain ⟨m0, m1, r0, r1, z0, z1, g0, g1⟩ := HM0.out _ HB8.out; have x0 := cell_blk HX8.out 0; have x1 := cell_blk HX8.out 1; clear hb8)
      | fail)
    exact bodyPost_ret (v := .tuple #[.agg #[.string ⟨#[]⟩, .int .i64 0], .bool false]) (by simp [results, Try.results35, go_sem, z0, z1]) rfl ⟨by rw [HVV.out], ((HB0.out.trans (HB6.out.mono HB0.out.size)).setCell (by simp; omega) _).setCell (by simp; omega) _⟩
  · have PP := Lib.hid (fun W => PY.out W h1)
    have tz : decide (zq < 0) = false := decide_eq_false (by omega)
    by_cases h2 : 0 < zr
    · have t2 : decide ((0 : Int) < zr) = true := decide_eq_true h2
      have hc : ceilq A N D = zq + 1 := by rw [HCL.out, if_pos h2]
      have e1 : wrap64 (zq + 1) = zq + 1 := wrap_q (by omega)
      by_cases h3 : zq + 1 ≤ 1099511627776
      · have MQQ : Hid (∀ W, Calls Try.prog 55 #[.agg #[.string ⟨#[85, 83, 68]⟩, .int .i64 (zq + 1)]] W (RetB W true)) := Lib.hid (fun W => by have := MQ.out (zq + 1) W; rwa [show amtOk (zq + 1) = true by simp [amtOk]; omega] at this)
        have HVV := Lib.hid (HYES.out (by omega))
        rw [hc] at HVV
        clear h1 h2 h3 hc hq0 hr0
        go_enter Try.func35, Try.ntmps35
        go_wp2_with fail
        rw [← hw0]
        clear hw0
        go_wp2_with (first
          | ((with_reducible refine (MY.out _).mono ?_); rintro e w2 ⟨rfl, hb2⟩; have HB2 := Lib.hid hb2; obtain ⟨m0, m1, r0, r1, -, -, -, -⟩ := HM0.out _ HB2.out; clear hb2)
          | ((with_reducible refine (IR.out _).mono ?_); rintro e w4 ⟨rfl, hb4⟩; have HB4 := Lib.hid (below_then HB2.out hb4); obtain ⟨m0, m1, r0, r1, -, -, -, -⟩ := HM0.out _ HB4.out; clear hb4)
          | ((with_reducible refine (PP.out _).mono ?_); rintro e w6 ⟨rfl, hb6⟩; have HB6 := Lib.hid (below_then HB4.out hb6); obtain ⟨m0, m1, r0, r1, z0, z1, g0, g1⟩ := HM0.out _ HB6.out; have HNE : Hid (¬ w.heap.size + 1 + 1 = w6.heap.size) := Lib.hid (by have := HB6.out.size; have := HZ0.out; omega); clear hb6)
          | ((with_reducible refine (MQQ.out _).mono ?_); rintro e w8 ⟨rfl, hb8⟩; have HB8 := Lib.hid (HB6.out.trans ((below_new hb8).mono HB6.out.size)); have HX8 := Lib.hid (blk hb8 (by simp) (heap_alloc_new w6 _)); obtain ⟨m0, m1, r0, r1, z0, z1, g0, g1⟩ := HM0.out _ HB8.out; have x0 := cell_blk HX8.out 0; have x1 := cell_blk HX8.out 1; clear hb8)
          | fail)
        exact bodyPost_ret (v := .tuple #[.agg #[.string ⟨#[85, 83, 68]⟩, .int .i64 (zq + 1)], .bool true]) (by simp [results, Try.results35, go_sem, z0, z1]) rfl ⟨by rw [HVV.out], ((HB0.out.trans (HB8.out.mono HB0.out.size)).setCell (by simp; omega) _).setCell (by simp; omega) _⟩
      · have MQQ : Hid (∀ W, Calls Try.prog 55 #[.agg #[.string ⟨#[85, 83, 68]⟩, .int .i64 (zq + 1)]] W (RetB W false)) := Lib.hid (fun W => by have := MQ.out (zq + 1) W; rwa [show amtOk (zq + 1) = false by simp [amtOk]; omega] at this)
        have HVV := Lib.hid (HNO.out (by omega))
        clear h1 h2 h3 hc hq0 hr0
        go_enter Try.func35, Try.ntmps35
        go_wp2_with fail
        rw [← hw0]
        clear hw0
        go_wp2_with (first
          | ((with_reducible refine (MY.out _).mono ?_); rintro e w2 ⟨rfl, hb2⟩; have HB2 := Lib.hid hb2; obtain ⟨m0, m1, r0, r1, -, -, -, -⟩ := HM0.out _ HB2.out; clear hb2)
          | ((with_reducible refine (IR.out _).mono ?_); rintro e w4 ⟨rfl, hb4⟩; have HB4 := Lib.hid (below_then HB2.out hb4); obtain ⟨m0, m1, r0, r1, -, -, -, -⟩ := HM0.out _ HB4.out; clear hb4)
          | ((with_reducible refine (PP.out _).mono ?_); rintro e w6 ⟨rfl, hb6⟩; have HB6 := Lib.hid (below_then HB4.out hb6); obtain ⟨m0, m1, r0, r1, z0, z1, g0, g1⟩ := HM0.out _ HB6.out; have HNE : Hid (¬ w.heap.size + 1 + 1 = w6.heap.size) := Lib.hid (by have := HB6.out.size; have := HZ0.out; omega); clear hb6)
          | ((with_reducible refine (MQQ.out _).mono ?_); rintro e w8 ⟨rfl, hb8⟩; have HB8 := Lib.hid (HB6.out.trans ((below_new hb8).mono HB6.out.size)); have HX8 := Lib.hid (blk hb8 (by simp) (heap_alloc_new w6 _)); obtain ⟨m0, m1, r0, r1, z0, z1, g0, g1⟩ := HM0.out _ HB8.out; have x0 := cell_blk HX8.out 0; have x1 := cell_blk HX8.out 1; clear hb8)
          | fail)
        exact bodyPost_ret (v := .tuple #[.agg #[.string ⟨#[]⟩, .int .i64 0], .bool false]) (by simp [results, Try.results35, go_sem, z0, z1]) rfl ⟨by rw [HVV.out], ((HB0.out.trans (HB8.out.mono HB0.out.size)).setCell (by simp; omega) _).setCell (by simp; omega) _⟩
    · have t2 : decide ((0 : Int) < zr) = false := decide_eq_false h2
      have hc : ceilq A N D = zq := by rw [HCL.out, if_neg h2]
      by_cases h3 : zq ≤ 1099511627776
      · have MQQ : Hid (∀ W, Calls Try.prog 55 #[.agg #[.string ⟨#[85, 83, 68]⟩, .int .i64 zq]] W (RetB W true)) := Lib.hid (fun W => by have := MQ.out zq W; rwa [show amtOk zq = true by simp [amtOk]; omega] at this)
        have HVV := Lib.hid (HYES.out (by omega))
        rw [hc] at HVV
        clear h1 h2 h3 hc hq0 hr0
        go_enter Try.func35, Try.ntmps35
        go_wp2_with fail
        rw [← hw0]
        clear hw0
        go_wp2_with (first
          | ((with_reducible refine (MY.out _).mono ?_); rintro e w2 ⟨rfl, hb2⟩; have HB2 := Lib.hid hb2; obtain ⟨m0, m1, r0, r1, -, -, -, -⟩ := HM0.out _ HB2.out; clear hb2)
          | ((with_reducible refine (IR.out _).mono ?_); rintro e w4 ⟨rfl, hb4⟩; have HB4 := Lib.hid (below_then HB2.out hb4); obtain ⟨m0, m1, r0, r1, -, -, -, -⟩ := HM0.out _ HB4.out; clear hb4)
          | ((with_reducible refine (PP.out _).mono ?_); rintro e w6 ⟨rfl, hb6⟩; have HB6 := Lib.hid (below_then HB4.out hb6); obtain ⟨m0, m1, r0, r1, z0, z1, g0, g1⟩ := HM0.out _ HB6.out; have HNE : Hid (¬ w.heap.size + 1 + 1 = w6.heap.size) := Lib.hid (by have := HB6.out.size; have := HZ0.out; omega); clear hb6)
          | ((with_reducible refine (MQQ.out _).mono ?_); rintro e w8 ⟨rfl, hb8⟩; have HB8 := Lib.hid (HB6.out.trans ((below_new hb8).mono HB6.out.size)); have HX8 := Lib.hid (blk hb8 (by simp) (heap_alloc_new w6 _)); obtain ⟨m0, m1, r0, r1, z0, z1, g0, g1⟩ := HM0.out _ HB8.out; have x0 := cell_blk HX8.out 0; have x1 := cell_blk HX8.out 1; clear hb8)
          | fail)
        exact bodyPost_ret (v := .tuple #[.agg #[.string ⟨#[85, 83, 68]⟩, .int .i64 zq], .bool true]) (by simp [results, Try.results35, go_sem, z0, z1]) rfl ⟨by rw [HVV.out], ((HB0.out.trans (HB8.out.mono HB0.out.size)).setCell (by simp; omega) _).setCell (by simp; omega) _⟩
      · have MQQ : Hid (∀ W, Calls Try.prog 55 #[.agg #[.string ⟨#[85, 83, 68]⟩, .int .i64 zq]] W (RetB W false)) := Lib.hid (fun W => by have := MQ.out zq W; rwa [show amtOk zq = false by simp [amtOk]; omega] at this)
        have HVV := Lib.hid (HNO.out (by omega))
        clear h1 h2 h3 hc hq0 hr0
        go_enter Try.func35, Try.ntmps35
        go_wp2_with fail
        rw [← hw0]
        clear hw0
        go_wp2_with (first
          | ((with_reducible refine (MY.out _).mono ?_); rintro e w2 ⟨rfl, hb2⟩; have HB2 := Lib.hid hb2; obtain ⟨m0, m1, r0, r1, -, -, -, -⟩ := HM0.out _ HB2.out; clear hb2)
          | ((with_reducible refine (IR.out _).mono ?_); rintro e w4 ⟨rfl, hb4⟩; have HB4 := Lib.hid (below_then HB2.out hb4); obtain ⟨m0, m1, r0, r1, -, -, -, -⟩ := HM0.out _ HB4.out; clear hb4)
          | ((with_reducible refine (PP.out _).mono ?_); rintro e w6 ⟨rfl, hb6⟩; have HB6 := Lib.hid (below_then HB4.out hb6); obtain ⟨m0, m1, r0, r1, z0, z1, g0, g1⟩ := HM0.out _ HB6.out; have HNE : Hid (¬ w.heap.size + 1 + 1 = w6.heap.size) := Lib.hid (by have := HB6.out.size; have := HZ0.out; omega); clear hb6)
          | ((with_reducible refine (MQQ.out _).mono ?_); rintro e w8 ⟨rfl, hb8⟩; have HB8 := Lib.hid (HB6.out.trans ((below_new hb8).mono HB6.out.size)); have HX8 := Lib.hid (blk hb8 (by simp) (heap_alloc_new w6 _)); obtain ⟨m0, m1, r0, r1, z0, z1, g0, g1⟩ := HM0.out _ HB8.out; have x0 := cell_blk HX8.out 0; have x1 := cell_blk HX8.out 1; clear hb8)
          | fail)
        exact bodyPost_ret (v := .tuple #[.agg #[.string ⟨#[]⟩, .int .i64 0], .bool false]) (by simp [results, Try.results35, go_sem, z0, z1]) rfl ⟨by rw [HVV.out], ((HB0.out.trans (HB8.out.mono HB0.out.size)).setCell (by simp; omega) _).setCell (by simp; omega) _⟩
end Go.Proofs.Ytehlhfcaajhhaaa.Sc
