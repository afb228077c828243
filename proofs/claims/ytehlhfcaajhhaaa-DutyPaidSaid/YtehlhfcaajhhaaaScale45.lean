/- Scale of the program: so many dollars times a fraction, rounded up. -/
import Derived.Test.YtehlhfcaajhhaaaMoney45
import Derived.Test.YtehlhfcaajhhaaaGuard
namespace Go.Proofs.Ytehlhfcaajhhaaa.Sc
open Go Go.RowKit Go.ChangeShapes Go.WideShapes Go.ChangeAt
set_option maxRecDepth 100000

/-- What Scale answers. -/
def scaleV (a n d : Int) : Value := if ceilq a n d ≤ 1099511627776 then .tuple #[.agg #[.string ⟨#[85, 83, 68]⟩, .int .i64 (ceilq a n d)], .bool true] else .tuple #[.agg #[.string ⟨#[]⟩, .int .i64 0], .bool false]
/-- The boxes of the money, of the fraction, and of the result. -/
structure Mny (W : World) (b : Nat) (a n d : Int) : Prop where
  m0 : W.cell? ⟨b, 0, none⟩ = some (.string ⟨#[85, 83, 68]⟩)
  m1 : W.cell? ⟨b, 1, none⟩ = some (.int .i64 a)
  r0 : W.cell? ⟨b + 1, 0, none⟩ = some (.int .i64 n)
  r1 : W.cell? ⟨b + 1, 1, none⟩ = some (.int .i64 d)
  z0 : W.cell? ⟨b + 1 + 1, 0, none⟩ = some (.string ⟨#[]⟩)
  z1 : W.cell? ⟨b + 1 + 1, 1, none⟩ = some (.int .i64 0)
  g0 : W.frozen? ⟨b + 1 + 1, 0, none⟩ = false
  g1 : W.frozen? ⟨b + 1 + 1, 1, none⟩ = false
theorem mny_of {W : World} {b : Nat} {a n d : Int} {T1 T2 T3 : TypeId} (h1 : W.heap[b]? = some (.cells #[.string ⟨#[85, 83, 68]⟩, .int .i64 a] T1 (0, 0))) (h2 : W.heap[b + 1]? = some (.cells #[.int .i64 n, .int .i64 d] T2 (0, 0))) (h3 : W.heap[b + 2]? = some (.cells #[.string ⟨#[]⟩, .int .i64 0] T3 (0, 0))) : Mny W b a n d :=
  ⟨cell_blk h1 0, cell_blk h1 1, cell_blk h2 0, cell_blk h2 1, cell_blk h3 0, cell_blk h3 1, free_blk h3 0, free_blk h3 1⟩

theorem three_blocks (w : World) (o1 o2 o3 : Obj) : (((w.alloc o1).alloc o2).alloc o3).heap[w.heap.size]? = some o1 ∧ (((w.alloc o1).alloc o2).alloc o3).heap[w.heap.size + 1]? = some o2 ∧ (((w.alloc o1).alloc o2).alloc o3).heap[w.heap.size + 2]? = some o3 := by
  have e1 := heap_alloc_new w o1
  have e2 := heap_alloc_new (w.alloc o1) o2
  have e3 := heap_alloc_new ((w.alloc o1).alloc o2) o3
  have s1 : (w.alloc o1).heap.size = w.heap.size + 1 := by simp
  have s2 : ((w.alloc o1).alloc o2).heap.size = w.heap.size + 2 := by simp
  rw [s1] at e2
  rw [s2] at e3
  exact ⟨(Below.heap_alloc _ o3 _ (by omega)).trans ((Below.heap_alloc _ o2 _ (by omega)).trans e1), (Below.heap_alloc _ o3 _ (by omega)).trans e2, e3⟩
set_option maxHeartbeats 4000000 in
theorem scale_any (A N D : Nat) (w : World) (ha : A ≤ 1099511627776) (hn : N ≤ 9223372036854775807) (hd : 1 ≤ D) (hd2 : D ≤ 9223372036854775807) :
    Calls Try.prog 34 #[.agg #[.string ⟨#[85, 83, 68]⟩, .int .i64 A], .agg #[.int .i64 N, .int .i64 D], .int .i64 1] w (Ret w (scaleV A N D)) := by
  obtain ⟨w0, hw0⟩ : ∃ x, x = ((w.alloc (.cells #[.string ⟨#[85, 83, 68]⟩, .int .i64 A] 80)).alloc (.cells #[.int .i64 N, .int .i64 D] 65)).alloc (.cells #[.string ⟨#[]⟩, .int .i64 0] 80) := ⟨_, rfl⟩
  have HB0 : Hid (Below w.heap.size w w0) := Lib.hid (hw0 ▸ (((Below.refl _ _).alloc (Nat.le_refl _) _).alloc (by simp) _).alloc (by simp; omega) _)
  have HM0 : Hid (∀ W, Below w0.heap.size w0 W → Mny W w.heap.size A N D) := Lib.hid (fun W h => by
    have hz : w0.heap.size = w.heap.size + 3 := by rw [hw0]; simp
    obtain ⟨p1, p2, p3⟩ := three_blocks w (.cells #[.string ⟨#[85, 83, 68]⟩, .int .i64 A] 80) (.cells #[.int .i64 N, .int .i64 D] 65) (.cells #[.string ⟨#[]⟩, .int .i64 0] 80)
    rw [← hw0] at p1 p2 p3
    refine mny_of (T1 := 80) (T2 := 65) (T3 := 80) ((h.block _ (by omega)).trans p1) ((h.block _ (by omega)).trans p2) ((h.block _ (by omega)).trans p3))
  obtain ⟨hi, hhi⟩ : ∃ x, x = A * N / 18446744073709551616 := ⟨_, rfl⟩
  obtain ⟨lo, hlo⟩ : ∃ x, x = A * N % 18446744073709551616 := ⟨_, rfl⟩
  have hml : hi * 18446744073709551616 + lo = A * N := by omega
  have RU := Lib.hid (fun W => rounder_up W)
  have MY : Hid (∀ W, Calls Try.prog 50 #[.agg #[.string ⟨#[85, 83, 68]⟩, .int .i64 A]] W (RetB W true)) := Lib.hid (fun W => by have := may_usd A W; rwa [show amtOk (A : Int) = true by simp [amtOk]; omega] at this)
  have IR : Hid (∀ W, Calls Try.prog 51 #[.agg #[.int .i64 N, .int .i64 D]] W (RetB W true)) := Lib.hid (fun W => by have := isRatio_any N D W; rwa [show ratOk (N : Int) D = true by simp [ratOk]; omega] at this)
  have SZ := Lib.hid (fun W => size_any A W (by omega) (by omega))
  have ML : Hid (∀ W, Calls Try.prog 52 #[.int .u64 A, .int .u64 N] W fun e w' => e = .returned (.tuple #[.int .u64 hi, .int .u64 lo]) ∧ w' = W) := Lib.hid (fun W => by rw [hhi, hlo]; exact Try.bits_Mul64 A N (by omega) (by omega) W)
  have EN : Hid (IntKind.u64.wrap (N : Int) = N) := Lib.hid (IntWalk.u64_in _ (by omega))
  have ED : IntKind.u64.wrap (D : Int) = D := IntWalk.u64_in _ (by omega)
  have UP := Lib.hid (fun r W => up_any r D W)
  have fe : ∀ W, (binOp .eql 101 (.func (.func 63) #[] #[]) .nilFunc).run Try.prog W = .ok (.bool false) W := fun W => by kernel_rfl
  have ta : decide ((A : Int) < 0) = false := decide_eq_false (by omega)
  have HD1 := Lib.hid hd
  have HML := Lib.hid (And.intro hhi (And.intro hlo hml))
  have HQ : Hid (Quo A N D ((A * N / D : Nat) : Int) ((A * N % D : Nat) : Int)) := Lib.hid (by
    have := Nat.div_add_mod (A * N) D
    have h2 := Nat.mod_lt (A * N) (show 0 < D by omega)
    refine ⟨?_, Int.natCast_nonneg _, by omega⟩
    have h3 := congrArg (fun n : Nat => (n : Int)) this
    simp only [Int.natCast_add, Int.natCast_mul] at h3
    rw [Int.mul_comm]
    exact h3)
  have DV := Lib.hid (fun W (h : hi < D) => div64_any hi lo D W (by omega) h (by omega))
  rw [hml] at DV
  obtain ⟨q, hq⟩ : ∃ x, x = A * N / D := ⟨_, rfl⟩
  obtain ⟨r, hr⟩ : ∃ x, x = A * N % D := ⟨_, rfl⟩
  rw [← hq, ← hr] at HQ DV
  have HQD : Hid (D ≤ hi → 18446744073709551616 ≤ q) := Lib.hid (fun h => by
    rw [hq, Nat.le_div_iff_mul_le (by omega)]
    have : D * 18446744073709551616 ≤ hi * 18446744073709551616 := Nat.mul_le_mul_right _ h
    omega)
  have HCL := Lib.hid (ceil_quo HQ.out (by omega))
  obtain ⟨v, hv⟩ : ∃ v, v = scaleV A N D := ⟨_, rfl⟩
  rw [← hv]
  have HV := Lib.hid hv
  clear hhi hlo hml ha hn hd hd2 hq hr hv
  go_enter Try.func34, Try.ntmps34
  go_wp2_with fail
  rw [← hw0]
  clear hw0
  go_wp2_with (first
    | ((with_reducible refine (RU.out _).mono ?_); rintro e w1 ⟨rfl, hb1⟩; have HB1 := Lib.hid hb1; obtain ⟨m0, m1, r0, r1, -, -, -, -⟩ := HM0.out _ HB1.out; clear hb1)
    | ((with_reducible refine (MY.out _).mono ?_); rintro e w2 ⟨rfl, hb2⟩; have HB2 := Lib.hid (below_then HB1.out hb2); obtain ⟨m0, m1, r0, r1, -, -, -, -⟩ := HM0.out _ HB2.out; clear hb2)
    | ((with_reducible refine (IR.out _).mono ?_); rintro e w4 ⟨rfl, hb4⟩; have HB4 := Lib.hid (below_then HB2.out hb4); obtain ⟨m0, m1, r0, r1, -, -, -, -⟩ := HM0.out _ HB4.out; clear hb4)
    | fail)
  have HP : Hid (∀ W, Below w4.heap.size w4 W → Mny W w.heap.size A N D) := Lib.hid (fun W h => HM0.out W (HB4.out.trans (h.mono HB4.out.size)))
  clear m0 m1 r0 r1
  refine Any.region_lit (fun
    | 0 => Any.val (.pointer (some ⟨w.heap.size, 1, none⟩))
    | 1 => Any.val (.int .i64 A)
    | 2 => Any.val (.int .u64 A)
    | 3 => Any.val (.pointer (some ⟨w.heap.size + 1, 0, none⟩))
    | 4 => Any.val (.int .i64 N)
    | 5 => Any.val (.int .u64 N)
    | 6 => Any.val (.tuple #[.int .u64 hi, .int .u64 lo])
    | 7 => Any.val (.tuple #[.int .u64 hi, .int .u64 lo])
    | 8 => Any.val (.int .u64 hi)
    | 9 => Any.val (.int .u64 lo)
    | 10 => Any.val (.int .u64 hi)
    | 11 => Any.val (.int .u64 lo)
    | _ => Any.idle) (by kernel_rfl) (by kernel_rfl) (by kernel_rfl) ?_ ?_ ?_
  · intro i _
    match i with
    | 0 => exact Any.lasts_val _
    | 1 => exact Any.lasts_val _
    | 2 => exact Any.lasts_val _
    | 3 => exact Any.lasts_val _
    | 4 => exact Any.lasts_val _
    | 5 => exact Any.lasts_val _
    | 6 => exact Any.lasts_val _
    | 7 => exact Any.lasts_val _
    | 8 => exact Any.lasts_val _
    | 9 => exact Any.lasts_val _
    | 10 => exact Any.lasts_val _
    | 11 => exact Any.lasts_val _
    | n + 12 => exact Any.lasts_idle
  · refine ⟨?_, ?_, ?_, ?_, ?_, ?_, ?_, ?_, ?_, ?_, ?_, ?_, trivial⟩
    · refine Any.owes_plain rfl fun ρ wo hs' hb hc' => ?_
      have h3 : ρ (.tmp 3) = .pointer (some ⟨w.heap.size, 0, none⟩) := hs'.old' 3 (by kernel_rfl)
      go_simp
      exact Any.post_val hb rfl rfl
    · refine Any.owes_plain rfl fun ρ wo hs' hb hc' => ?_
      have h34 : ρ (.tmp 34) = .pointer (some ⟨w.heap.size, 1, none⟩) := hs'.new' 34 0 (by kernel_rfl)
      have c0 := (HP.out wo (below_undrew hb)).m1
      go_simp
      exact Any.post_val hb rfl rfl
    · refine Any.owes_plain rfl fun ρ wo hs' hb hc' => ?_
      have h35 : ρ (.tmp 35) = .int .i64 A := hs'.new' 35 1 (by kernel_rfl)
      have hf := hs'.func 53
      go_simp
      exact (SZ.out wo).mono fun e w' ⟨he, hb'⟩ => ⟨_, he, Any.post_vals hb rfl rfl hb'⟩
    · refine Any.owes_plain rfl fun ρ wo hs' hb hc' => ?_
      have h4 : ρ (.tmp 4) = .pointer (some ⟨w.heap.size + 1, 0, none⟩) := hs'.old' 4 (by kernel_rfl)
      go_simp
      exact Any.post_val hb rfl rfl
    · refine Any.owes_plain rfl fun ρ wo hs' hb hc' => ?_
      have h37 : ρ (.tmp 37) = .pointer (some ⟨w.heap.size + 1, 0, none⟩) := hs'.new' 37 3 (by kernel_rfl)
      have c0 := (HP.out wo (below_undrew hb)).r0
      go_simp
      exact Any.post_val hb rfl rfl
    · refine Any.owes_plain rfl fun ρ wo hs' hb hc' => ?_
      have h38 : ρ (.tmp 38) = .int .i64 N := hs'.new' 38 4 (by kernel_rfl)
      have e0 := EN.out
      go_simp
      exact Any.post_val hb rfl rfl
    · refine Any.owes_plain rfl fun ρ wo hs' hb hc' => ?_
      have h36 : ρ (.tmp 36) = .int .u64 A := hs'.new' 36 2 (by kernel_rfl)
      have h39 : ρ (.tmp 39) = .int .u64 N := hs'.new' 39 5 (by kernel_rfl)
      have hf := hs'.func 52
      go_simp
      exact (ML.out wo).mono fun e w' ⟨he, hb'⟩ => ⟨_, he, Any.post_vals hb rfl rfl (by rw [hb']; exact Below.refl _ _)⟩
    · refine Any.owes_plain rfl fun ρ wo hs' hb hc' => ?_
      have h40 : ρ (.tmp 40) = .tuple #[.int .u64 hi, .int .u64 lo] := hs'.new' 40 6 (by kernel_rfl)
      exact Any.ok_move (Any.post_val hb rfl h40)
    · refine Any.owes_plain rfl fun ρ wo hs' hb hc' => ?_
      have h33 : ρ (.tmp 33) = .tuple #[.int .u64 hi, .int .u64 lo] := hs'.new' 33 7 (by kernel_rfl)
      go_simp
      exact Any.post_val hb rfl rfl
    · refine Any.owes_plain rfl fun ρ wo hs' hb hc' => ?_
      have h33 : ρ (.tmp 33) = .tuple #[.int .u64 hi, .int .u64 lo] := hs'.new' 33 7 (by kernel_rfl)
      go_simp
      exact Any.post_val hb rfl rfl
    · refine Any.owes_plain rfl fun ρ wo hs' hb hc' => ?_
      have h41 : ρ (.tmp 41) = .int .u64 hi := hs'.new' 41 8 (by kernel_rfl)
      exact Any.ok_assign (Any.post_val hb rfl h41)
    · refine Any.owes_plain rfl fun ρ wo hs' hb hc' => ?_
      have h42 : ρ (.tmp 42) = .int .u64 lo := hs'.new' 42 9 (by kernel_rfl)
      exact Any.ok_assign (Any.post_val hb rfl h42)
  · intro vals w5 hb hk ha
    have h10 := hk 10 (by kernel_rfl)
    have h11 := hk 11 (by kernel_rfl)
    have hp5 := HP.out _ hb
    have HB5 := Lib.hid (HB4.out.trans (hb.mono HB4.out.size))
    have HP5 : Hid (∀ W, Below w5.heap.size w5 W → Mny W w.heap.size A N D) := Lib.hid (fun W h => HP.out W (hb.trans (h.mono hb.size)))
    obtain ⟨m0, m1, r0, r1, z0, z1, g0, g1⟩ := hp5
    clear hk ha hb
    simp only [Any.putAll]
    go_frame
    simp only [Nat.zero_add, Nat.reduceAdd]
    rw [h10, h11]
    clear h10 h11
    have HB := Lib.hid (HB0.out.trans (HB5.out.mono HB0.out.size))
    have HNO : Hid (¬ ceilq A N D ≤ 1099511627776 → v = .tuple #[.agg #[.string ⟨#[]⟩, .int .i64 0], .bool false]) := Lib.hid (fun h => by rw [HV.out, scaleV, if_neg h])
    have HYES : Hid (ceilq A N D ≤ 1099511627776 → v = .tuple #[.agg #[.string ⟨#[85, 83, 68]⟩, .int .i64 (ceilq A N D)], .bool true]) := Lib.hid (fun h => by rw [HV.out, scaleV, if_pos h])
    by_cases hh : D ≤ hi
    · have t1 : decide ((D : Int) ≤ hi) = true := decide_eq_true (by omega)
      have t2 : decide (D ≤ hi) = true := decide_eq_true hh
      have hv := HNO.out (by rw [HCL.out]; have := HQD.out hh; split <;> omega)
      have HVV := Lib.hid hv
      clear hh hv
      go_wp2_with fail
      exact bodyPost_ret (v := .tuple #[.agg #[.string ⟨#[]⟩, .int .i64 0], .bool false]) (by simp [results, Try.results34, go_sem, z0, z1]) rfl ⟨by rw [HVV.out], (HB.out.setCell (by simp; omega) _).setCell (by simp; omega) _⟩
    · have t1 : decide ((D : Int) ≤ hi) = false := decide_eq_false (by omega)
      have t2 : decide (D ≤ hi) = false := decide_eq_false hh
      have DVV := Lib.hid (fun W => DV.out W (by omega))
      have HCQ := Lib.hid HCL.out
      clear hh
      obtain ⟨zq, hzq⟩ : ∃ z : Int, z = q := ⟨_, rfl⟩
      obtain ⟨zr, hzr⟩ : ∃ z : Int, z = r := ⟨_, rfl⟩
      have hq0 : 0 ≤ zq := by omega
      have hr0 : 0 ≤ zr := by omega
      rw [← hzq, ← hzr] at DVV HCQ
      clear hzq hzr
      by_cases h1 : 1099511627776 < zq
      · have t3 : decide ((1099511627776 : Int) < zq) = true := decide_eq_true h1
        have HVV := Lib.hid (HNO.out (by rw [HCQ.out]; split <;> omega))
        clear h1 hq0 hr0
        go_wp2_with (first
          | ((with_reducible refine (DVV.out _).mono ?_); rintro e w6 ⟨rfl, hb6⟩; have HB := Lib.hid (HB.out.trans (hb6.mono HB.out.size)); obtain ⟨m0, m1, r0, r1, z0, z1, g0, g1⟩ := HP5.out _ hb6; clear hb6)
          | fail)
        exact bodyPost_ret (v := .tuple #[.agg #[.string ⟨#[]⟩, .int .i64 0], .bool false]) (by simp [results, Try.results34, go_sem, z0, z1]) rfl ⟨by rw [HVV.out], (HB.out.setCell (by simp; omega) _).setCell (by simp; omega) _⟩
      · have t3 : decide ((1099511627776 : Int) < zq) = false := decide_eq_false h1
        by_cases h2 : 0 < zr
        · have t4 : decide ((0 : Int) < zr) = true := decide_eq_true h2
          have e1 : IntKind.u64.wrap (zq + 1) = zq + 1 := IntWalk.u64_in _ (by omega)
          have e2 : IntKind.i64.wrap (zq + 1) = zq + 1 := IntWalk.i64_in _ (by omega)
          have hc : ceilq A N D = zq + 1 := by rw [HCQ.out, if_pos h2]
          by_cases h3 : 1099511627776 < zq + 1
          · have t5 : decide ((1099511627776 : Int) < zq + 1) = true := decide_eq_true h3
            have HVV := Lib.hid (HNO.out (by omega))
            clear h1 h2 h3 hq0 hr0 hc
            go_wp2_with (first
              | ((with_reducible refine (DVV.out _).mono ?_); rintro e w6 ⟨rfl, hb6⟩; have HB6 := Lib.hid hb6; clear hb6)
              | ((with_reducible refine (UP.out _ _).mono ?_); rintro e w7 ⟨rfl, hb7⟩; have hb67 := below_then HB6.out hb7; have HB := Lib.hid (HB.out.trans (hb67.mono HB.out.size)); obtain ⟨m0, m1, r0, r1, z0, z1, g0, g1⟩ := HP5.out _ hb67; clear hb7 hb67)
              | fail)
            exact bodyPost_ret (v := .tuple #[.agg #[.string ⟨#[]⟩, .int .i64 0], .bool false]) (by simp [results, Try.results34, go_sem, z0, z1]) rfl ⟨by rw [HVV.out], (HB.out.setCell (by simp; omega) _).setCell (by simp; omega) _⟩
          · have t5 : decide ((1099511627776 : Int) < zq + 1) = false := decide_eq_false h3
            have HVV := Lib.hid (HYES.out (by omega))
            rw [hc] at HVV
            clear h1 h2 h3 hq0 hr0 hc
            go_wp2_with (first
              | ((with_reducible refine (DVV.out _).mono ?_); rintro e w6 ⟨rfl, hb6⟩; have HB6 := Lib.hid hb6; clear hb6)
              | ((with_reducible refine (UP.out _ _).mono ?_); rintro e w7 ⟨rfl, hb7⟩; have hb67 := below_then HB6.out hb7; have HB := Lib.hid (HB.out.trans (hb67.mono HB.out.size)); obtain ⟨m0, m1, r0, r1, z0, z1, g0, g1⟩ := HP5.out _ hb67; clear hb7 hb67)
              | fail)
            exact bodyPost_ret (v := .tuple #[.agg #[.string ⟨#[85, 83, 68]⟩, .int .i64 (zq + 1)], .bool true]) (by simp [results, Try.results34, go_sem, z0, z1]) rfl ⟨by rw [HVV.out], (HB.out.setCell (by simp; omega) _).setCell (by simp; omega) _⟩
        · have t4 : decide ((0 : Int) < zr) = false := decide_eq_false h2
          have e2 : IntKind.i64.wrap zq = zq := IntWalk.i64_in _ (by omega)
          have hc : ceilq A N D = zq := by rw [HCQ.out, if_neg h2]
          have HVV := Lib.hid (HYES.out (by omega))
          rw [hc] at HVV
          clear h1 h2 hq0 hr0 hc
          go_wp2_with (first
            | ((with_reducible refine (DVV.out _).mono ?_); rintro e w6 ⟨rfl, hb6⟩; have HB6 := Lib.hid hb6; clear hb6)
            | ((with_reducible refine (UP.out _ _).mono ?_); rintro e w7 ⟨rfl, hb7⟩; have hb67 := below_then HB6.out hb7; have HB := Lib.hid (HB.out.trans (hb67.mono HB.out.size)); obtain ⟨m0, m1, r0, r1, z0, z1, g0, g1⟩ := HP5.out _ hb67; clear hb7 hb67)
            | fail)
          exact bodyPost_ret (v := .tuple #[.agg #[.string ⟨#[85, 83, 68]⟩, .int .i64 zq], .bool true]) (by simp [results, Try.results34, go_sem, z0, z1]) rfl ⟨by rw [HVV.out], (HB.out.setCell (by simp; omega) _).setCell (by simp; omega) _⟩
end Go.Proofs.Ytehlhfcaajhhaaa.Sc
