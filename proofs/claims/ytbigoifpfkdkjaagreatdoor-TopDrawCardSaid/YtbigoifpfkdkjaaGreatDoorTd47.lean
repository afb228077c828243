/- TopDraw: the walk. -/
import Derived.Test.YtbigoifpfkdkjaaGreatDoorTd46
namespace Go.Proofs.YtbigoifpfkdkjaaGreatDoor.Sc
open Go Go.RowKit Go.ChangeShapes Go.WideShapes Go.ChangeAt
set_option maxRecDepth 100000

def u32Row (n : Int) : List Value := [.int .u32 n]
theorem tmod1001 (a : Int) (h : 0 ≤ a) : 0 ≤ a.tmod 1001 ∧ a.tmod 1001 ≤ 1000 := by
  have h1 := Int.tmod_nonneg 1001 h
  have h2 := Int.tmod_lt_of_pos a (show (0 : Int) < 1001 by decide)
  omega
set_option maxHeartbeats 4000000 in
theorem topDraw_walk (sum above below : Int) (part : Bool) (D : List Int) (v : Value) (w : World) (ht : TabW w) (hs : Sl w 1 v (D.map u32Row)) (s0 : 0 ≤ sum) (s1 : sum ≤ 4294967295) (a0 : 0 ≤ above) (a1 : above ≤ 65535) (b0 : 0 ≤ below) (b1 : below ≤ 65535) (hD : ∀ d ∈ D, 0 ≤ d ∧ d ≤ 4294967295) :
    Calls Tryz.prog 3 #[.int .u32 sum, .int .u16 above, .int .u16 below, .bool part, v] w (RetB w true) := by
  obtain ⟨av, cv, rfl⟩ : ∃ a c, v = .slice a D.length c := by simpa using hs.shape
  have HA := Lib.hid (fun W (hW : Below w.heap.size w W) => asks_any W (ht.below hW))
  have hll : D.length ≤ 9223372036854775807 := by have := hs.len_le; simp only [List.length_map, maxLen] at this; omega
  have HS := Lib.hid hs
  have HD := Lib.hid hD
  obtain ⟨i0, hi, hz, hsz, hby⟩ := info_parts infoDr
  have HI := Lib.hid (And.intro hi (And.intro hz (And.intro hsz hby)))
  clear hi hz hsz hby
  clear ht hs hD
  by_cases h12 : 12 < D.length
  · have t0 : decide ((12 : Int) < (D.length : Int)) = true := decide_eq_true (by omega)
    have t0' : decide (12 < D.length) = true := decide_eq_true h12
    clear h12
    go_enter Tryz.func3, Tryz.ntmps3
    go_upto_region 2 with (first
      | ((with_reducible refine (HA.out _ (Below.refl _ _)).mono ?_); rintro e w1 ⟨rfl, hb1⟩; have HB1 := Lib.hid hb1; clear hb1)
      | fail)
    go_wp2_with (first
      | ((with_reducible refine (HA.out _ HB1.out).mono ?_); rintro e w2 ⟨rfl, hb2⟩; have HB2 := Lib.hid (HB1.out.trans (hb2.mono HB1.out.size)); clear hb2)
      | fail)
    go_ret
    exact retB rfl HB2.out
  have t0 : decide ((12 : Int) < (D.length : Int)) = false := decide_eq_false (by omega)
  have t0' : decide (12 < D.length) = false := decide_eq_false h12
  have H12 := Lib.hid h12
  have f1 : IntKind.i64.wrap sum = sum := IntWalk.i64_in _ (by omega)
  have f2 : IntKind.i64.wrap above = above := IntWalk.i64_in _ (by omega)
  have f3 : IntKind.i64.wrap below = below := IntWalk.i64_in _ (by omega)
  have f4 : IntKind.i64.wrap (1 + sum) = 1 + sum := IntWalk.i64_in _ (by omega)
  obtain ⟨A, hA⟩ : ∃ A, A = above % 1001 := ⟨_, rfl⟩
  obtain ⟨B, hB⟩ : ∃ B, B = below % 1001 := ⟨_, rfl⟩
  have hA2 : 0 ≤ A ∧ A ≤ 1000 := by omega
  have hB2 : 0 ≤ B ∧ B ≤ 1000 := by omega
  have f5 : above % 1001 = A := hA.symm
  have f6 : below % 1001 = B := hB.symm
  have HBN : Hid ((crD (1 + sum) A B part).bnd = true) := Lib.hid (crD_bnd (by omega) (by omega) hA2.1 hA2.2 hB2.1 hB2.2)
  clear h12 hA hB
  go_enter Tryz.func3, Tryz.ntmps3
  go_upto_region 4 with (first
    | ((with_reducible refine (HA.out _ (Below.refl _ _)).mono ?_); rintro e w1 ⟨rfl, hb1⟩; have HB1 := Lib.hid hb1; clear hb1)
    | ((with_reducible refine new_cr 11 (.tmp 49) (crD (1 + sum) A B part) ?_ ?_ ?_); rfl; rfl)
    | fail)
  obtain ⟨cD, hcD⟩ : ∃ c, c = crD (1 + sum) A B part := ⟨_, rfl⟩
  have HCD := Lib.hid hcD
  rw [← hcD] at HBN ⊢
  have HXC := Lib.hid (heap_alloc_new w1 (.cells cD.cells 30))
  have HBC := Lib.hid (HB1.out.trans ((one_below w1 (.cells cD.cells 30)).mono HB1.out.size))
  obtain ⟨bc, hbc⟩ : ∃ b, b = w1.heap.size := ⟨_, rfl⟩
  rw [← hbc] at HXC ⊢
  generalize w1.alloc (.cells cD.cells 30) = W0 at *
  have HXC0 := HXC
  clear hcD hbc f1 f2 f3 f4 f5 f6 hA2 hB2 t0 t0' s0 s1 a0 a1 b0 b1
  have HMO := Lib.hid (fun W => most_yesD HBN.out W)
  have HNW := Lib.hid (fun W => new_yes cD (by rw [HCD.out]; exact crD_lives (by rw [← HCD.out]; exact HBN.out)) W)
  go_upto_region 6 with (first
    | ((with_reducible refine load_cr (.tmp 11) bc cD _ ?_ ?_ HXC.out ?_); rfl; rfl)
    | ((with_reducible refine (HMO.out _).mono ?_); rintro e w2 ⟨rfl, hb2⟩; have HB2 := Lib.hid hb2; have HXC := Lib.hid (blk hb2 (lt_blk HXC.out) HXC.out); clear hb2)
    | ((with_reducible refine (HNW.out _).mono ?_); rintro e w3 ⟨bk, rfl, hb3, F3, hl3, hF3⟩; have HR3bel := hb3; have HR3 : Hid (Run W0 w3 bk (Lf.new cD) (fun g => g = bc)) := Lib.hid ⟨⟨F3, hl3, fun j hj => Nat.le_trans HB2.out.size (hF3 j hj), fun g hg hf => (by have h1 := hF3 g hf; have h2 := lt_blk HXC.out; omega)⟩, fun g hg => (by have h2 := Nat.lt_of_lt_of_le (lt_blk HXC.out) hb3.size; omega), HB2.out.trans (hb3.mono HB2.out.size)⟩; have HXC := Lib.hid (blk hb3 (lt_blk HXC.out) HXC.out); clear hb3 hl3 hF3 HR3bel)
    | fail)
  obtain ⟨hz1, hz2⟩ := step_adv (new_dl (1 + sum) A B part)
  rw [← HCD.out] at hz1 hz2
  have HDO := Lib.hid (HR3.out.do' (by rw [HCD.out]; exact new_dl (1 + sum) A B part) ⟨0, kB, 0, 0⟩ (by decide) (by simp) (by decide))
  rw [hz1] at HDO
  generalize ((Lf.new cD).step ⟨0, kB, 0, 0⟩).2 = l1 at *
  have HL1 := Lib.hid hz2
  have HMB := Lib.hid (most_range cD ((bnd_iff cD).1 HBN.out))
  clear hz1 hz2
  unfold kB at HDO
  go_upto_region 8 with (first
    | ((with_reducible refine HDO.out.mono ?_); rintro e w4 ⟨rfl, hr4, hk4, hs4⟩; have HR4 := Lib.hid hr4; have HXC4 : Hid (w4.heap[bc]? = some (.cells cD.cells 30 (0, 0))) := Lib.hid ((hk4 bc rfl).trans HXC.out); clear hr4 hk4 hs4)
    | fail)
  go_wp2_with fail
  clear HXC HXC4 HMO HNW HDO HR3 HB2
  go_loopw [16, 17, 78] (fun pv tv iv wr => ∃ (k : Nat) (l : Lf) (st : Int) (now : Dr) (paid : List Dr), k ≤ D.length ∧ iv = .int .i64 k ∧ tv = .int .i64 (dsum paid) ∧ wr.ownsRow W0.heap.size 42 2 pv paid.length (drCells paid) ∧ Run W0 wr bk l (fun g => pv.ownBlock = some g) ∧ DL cD l st now paid k (1 + 4 * k) ∧ (st = 1 ∨ st = 6) ∧ PD cD paid k) (fun _ _ iv _ => D.length - (intOf iv).toNat)
  case atStart => exact ⟨0, l1, 1, ⟨0, 0⟩, [], Nat.zero_le _, rfl, rfl, World.ownsRow_nil _ _ _ _, HR4.out.sub (fun g hg => by cases hg), HL1.out, .inl rfl, ⟨by decide +kernel, by have := HMB.out; show (0 : Int) ≤ _; omega, fun _ => Nat.zero_le _, Nat.le_refl _⟩⟩
  case round =>
    obtain ⟨k, l, st, now, paid, hk, rfl, rfl, hrow, hrun, hdl, hst, hpd⟩ := hrel
    obtain ⟨ap, cp, rfl⟩ := ownsRow_shape hrow
    have HRUN := Lib.hid hrun
    have HROW := Lib.hid hrow
    have HPD := Lib.hid hpd
    have HDL := Lib.hid hdl
    have HST := Lib.hid hst
    by_cases hlt : k < D.length
    · have hbd := HD.out D[k] (List.getElem_mem hlt)
      obtain ⟨b, off, rfl, -, hb, hc⟩ := HS.out.at (i := k) (by simpa using hlt)
      have d0 : wr.cell? ⟨b, off + k, none⟩ = some (.int .u32 D[k]) := by
        have h := ((HBC.out.trans (hrun.bel.mono HBC.out.size)).cell (p := ⟨b, off + k * 1, none⟩) hb).trans (hc k (u32Row D[k]) (by simp [hlt]) 0 _ rfl)
        rw [Nat.mul_one] at h
        exact h
      have tk : ((k : Nat) : Int) < (D.length : Int) := by omega
      have HKL : Hid (k + 1 ≤ D.length) := Lib.hid hlt
      have hk12 : (k : Int) ≤ 12 := by have := H12.out; omega
      clear hb hc hrow hrun hdl hst hpd
      generalize D[k] = n at *
      clear hlt hk
      have f1 : IntKind.i64.wrap n = n := IntWalk.i64_in _ (by omega)
      have f2 : IntKind.i64.wrap (1 + n) = 1 + n := IntWalk.i64_in _ (by omega)
      have hx1 : 1 ≤ 1 + n ∧ 1 + n ≤ 1099511627776 := by omega
      have hdl := HDL.out
      rw [HCD.out] at hdl
      obtain ⟨p1, p2, p3⟩ := step_pres hdl HST.out (Int.le_refl _) (k' := (k : Int)) (by omega) (by omega) hx1.1 hx1.2
      rw [← HCD.out] at p1 p2 p3
      have HRB := Lib.hid (HRUN.out.box (.cells #[.int .i64 k, .int .i64 (1 + n)] 42))
      have HXD := Lib.hid (heap_alloc_new wr (.cells #[.int .i64 k, .int .i64 (1 + n)] 42))
      have HOA := Lib.hid (Any.ownsRow_same HROW.out (fun b hb => (one_below wr (.cells #[.int .i64 k, .int .i64 (1 + n)] 42)).block b (HROW.out.lt b hb).2))
      have HDO := Lib.hid (HRB.out.do' HDL.out ⟨2, sB, k, 1 + n⟩ (by rcases HST.out with h | h <;> omega) (by have := HPD.out.len; omega) (by omega))
      rw [p1] at HDO
      generalize (l.step ⟨2, sB, k, 1 + n⟩).2 = l2 at *
      have HMAY := Lib.hid (fun W (h : Sl W 2 (.slice ap paid.length cp) (paid.map Dr.row)) => May_any cD paid ⟨k, 1 + n⟩ _ W h)
      generalize hm : mayCode cD paid ⟨k, 1 + n⟩ = m at *
      have HM := Lib.hid hm
      have HP2 := Lib.hid p2
      have HP3 := Lib.hid p3
      unfold sB at HDO
      simp only at HDO HMAY
      clear p1 p2 p3 hdl hm hbd
      by_cases hm0 : m = 0
      rotate_left
      · have tm : (m != 0) = true := by simp [hm0]
        have HM0 := Lib.hid hm0
        clear hm0
        go_wp2_with (first
          | ((with_reducible refine HDO.out.mono ?_); rintro e w5 ⟨rfl, hr5, hk5, hs5⟩; have HR5 := Lib.hid hr5; have HXD5 := Lib.hid ((hk5 wr.heap.size (.inr rfl)).trans HXD.out); have HO5 := Lib.hid (Any.ownsRow_same HOA.out (fun b hb => hk5 b (.inl hb))); have HXC5 := Lib.hid (blk hr5.bel (lt_blk HXC0.out) HXC0.out); clear hr5 hk5 hs5; have c0 := cell_blk HXD5.out 0; have c1 := cell_blk HXD5.out 1)
          | ((with_reducible refine load_cr (.tmp 11) bc cD _ ?_ ?_ HXC5.out ?_); rfl; rfl)
          | ((with_reducible refine (HMAY.out _ (own_draws HO5.out rfl)).mono ?_); rintro e w6 ⟨rfl, hb6⟩; have HB6 := Lib.hid hb6; clear hb6)
          | fail)
        go_roundw
        case rel => exact ⟨k + 1, l, st, now, paid, HKL.out, by go_num, rfl, ownsRow_below HO5.out HB6.out, ((HP2.out HM0.out) ▸ (HR5.out.below HB6.out).sub (fun g hg => .inl hg)), HDL.out.mono (by omega) (by omega), HST.out, HPD.out.mono⟩
        case measure => have := HKL.out; (simp [intOf]) <;> omega
      have tm : (m != 0) = false := by simp [hm0]
      have HD2 := Lib.hid (HP3.out hm0)
      have HM0 := Lib.hid hm0
      clear hm0
      go_upto_region 19 with (first
        | ((with_reducible refine HDO.out.mono ?_); rintro e w5 ⟨rfl, hr5, hk5, hs5⟩; have HR5 := Lib.hid hr5; have HXD5 := Lib.hid ((hk5 wr.heap.size (.inr rfl)).trans HXD.out); have HO5 := Lib.hid (Any.ownsRow_same HOA.out (fun b hb => hk5 b (.inl hb))); have HXC5 := Lib.hid (blk hr5.bel (lt_blk HXC0.out) HXC0.out); clear hr5 hk5 hs5; have c0 := cell_blk HXD5.out 0; have c1 := cell_blk HXD5.out 1)
        | ((with_reducible refine load_cr (.tmp 11) bc cD _ ?_ ?_ HXC5.out ?_); rfl; rfl)
        | ((with_reducible refine (HMAY.out _ (own_draws HO5.out rfl)).mono ?_); rintro e w6 ⟨rfl, hb6⟩; have HB6 := Lib.hid hb6; clear hb6)
        | fail)
      have HPB : Hid (∀ b, Value.ownBlock (.slice ap paid.length cp) = some b → b < wr.heap.size) := Lib.hid (fun b hb => (HROW.out.lt b hb).2)
      clear HRB HXD HOA HDO HRUN HROW HMAY HP2 HP3
      generalize wr.heap.size = bd at *
      have HXE := Lib.hid (heap_alloc_new w6 (.cells #[.int .i64 4, .string ⟨#[107]⟩, .int .i64 k, .int .i64 0, .int .i64 5, .string ⟨#[107]⟩, .int .i64 k, .int .i64 0, .int .i64 6, .string ⟨#[121]⟩, .int .i64 k, .int .i64 0] 39))
      have HR7 := Lib.hid ((HR5.out.below HB6.out).box (.cells #[.int .i64 4, .string ⟨#[107]⟩, .int .i64 k, .int .i64 0, .int .i64 5, .string ⟨#[107]⟩, .int .i64 k, .int .i64 0, .int .i64 6, .string ⟨#[121]⟩, .int .i64 k, .int .i64 0] 39))
      have HB67 := Lib.hid (one_below w6 (.cells #[.int .i64 4, .string ⟨#[107]⟩, .int .i64 k, .int .i64 0, .int .i64 5, .string ⟨#[107]⟩, .int .i64 k, .int .i64 0, .int .i64 6, .string ⟨#[121]⟩, .int .i64 k, .int .i64 0] 39))
      have HXD7 := Lib.hid (blk HB67.out (lt_blk (blk HB6.out (lt_blk HXD5.out) HXD5.out)) (blk HB6.out (lt_blk HXD5.out) HXD5.out))
      have HO7 := Lib.hid (ownsRow_below (ownsRow_below HO5.out HB6.out) HB67.out)
      generalize w6.alloc (.cells #[.int .i64 4, .string ⟨#[107]⟩, .int .i64 k, .int .i64 0, .int .i64 5, .string ⟨#[107]⟩, .int .i64 k, .int .i64 0, .int .i64 6, .string ⟨#[121]⟩, .int .i64 k, .int .i64 0] 39) = w7 at *
      obtain ⟨K7, hK7⟩ : ∃ K, K = (fun g => (Value.ownBlock (.slice ap paid.length cp) = some g ∨ g = bd) ∨ g = w6.heap.size) := ⟨_, rfl⟩
      rw [← hK7] at HR7
      have HK7 := Lib.hid hK7
      have k1 : K7 w6.heap.size := by rw [hK7]; exact .inr rfl
      have k2 : K7 bd := by rw [hK7]; exact .inl (.inr rfl)
      have k3 : ∀ g, Value.ownBlock (.slice ap paid.length cp) = some g → K7 g := fun g hg => by rw [hK7]; exact .inl (.inl hg)
      have HKK := Lib.hid (And.intro k1 (And.intro k2 k3))
      clear hK7 c0 c1 k1 k2 k3 tm
      go_loopw [110] (fun jv wj => ∃ (j : Nat) (l' : Lf) (st' : Int) (paid' : List Dr), j ≤ 3 ∧ jv = .int .i64 j ∧ Run W0 wj bk l' K7 ∧ (∀ g, K7 g → wj.heap[g]? = w7.heap[g]?) ∧ ((j = 0 ∧ st' = 2 ∧ paid' = paid) ∨ (j = 1 ∧ st' = 4 ∧ paid' = paid) ∨ (j = 2 ∧ st' = 5 ∧ paid' = paid ++ [⟨k, 1 + n⟩]) ∨ (j = 3 ∧ st' = 6 ∧ paid' = paid ++ [⟨k, 1 + n⟩])) ∧ DL cD l' st' ⟨k, 1 + n⟩ paid' k (1 + 4 * k + 1 + j) ∧ w7.heap.size ≤ wj.heap.size) (fun jv _ => 3 - (intOf jv).toNat)
      case atStart => exact ⟨0, l2, 2, paid, by decide, rfl, HR7.out, fun _ _ => rfl, .inl ⟨rfl, rfl, rfl⟩, HD2.out, Nat.le_refl _⟩
      case round =>
        obtain ⟨j, l', st', paid', hj, rfl, hri, hkp, hjj, hdl, hsi⟩ := hrel
        rcases hjj with ⟨rfl, rfl, rfl⟩ | ⟨rfl, rfl, rfl⟩ | ⟨rfl, rfl, rfl⟩ | ⟨rfl, rfl, rfl⟩
        · have e0 := cell_blk ((hkp _ HKK.out.1).trans HXE.out) 0
          have e1 := cell_blk ((hkp _ HKK.out.1).trans HXE.out) 1
          have e2 := cell_blk ((hkp _ HKK.out.1).trans HXE.out) 2
          have e3 := cell_blk ((hkp _ HKK.out.1).trans HXE.out) 3
          have HKP := Lib.hid hkp
          have hdc := hdl
          rw [HCD.out] at hdc
          obtain ⟨z1, z2⟩ := step_hon hdc (by omega) (by omega)
          have HB8 := Lib.hid (one_below wr (.cells #[.int .i64 4, .string ⟨#[107]⟩, .int .i64 k, .int .i64 0] 39))
          have HX8 := Lib.hid (heap_alloc_new wr (.cells #[.int .i64 4, .string ⟨#[107]⟩, .int .i64 k, .int .i64 0] 39))
          have HDO := Lib.hid ((hri.below HB8.out).do' hdl ⟨4, kB, k, 0⟩ (by decide) (by have := HPD.out.len; (try rw [List.length_append]); simp; omega) (by omega))
          rw [z1] at HDO
          generalize (l'.step ⟨4, kB, k, 0⟩).2 = l9 at *
          have HOW := Lib.hid (fun W (h : Run W0 W bk l9 K7) => h.owe z2 (by decide))
          have HZ2 := Lib.hid z2
          have HSI := Lib.hid hsi
          have HRI := Lib.hid hri
          unfold kB at HDO
          unfold kB yB at HOW
          simp only [show ¬ ((4 : Int) = 5) by decide, if_true, if_false, decide_true, decide_false] at HOW HDO
          clear hkp hdl hdc z1 z2 hri hsi
          go_wp2_with (first
            | ((with_reducible refine HDO.out.mono ?_); rintro e w8 ⟨rfl, hr8, hk8, hs8⟩; have HR8 := Lib.hid hr8; have HKP8 : Hid (∀ g, K7 g → w8.heap[g]? = w7.heap[g]?) := Lib.hid (fun g hg => (hk8 g hg).trans ((HB8.out.block g (HRI.out.kept g hg)).trans (HKP.out g hg))); have HS8 : Hid (w7.heap.size ≤ w8.heap.size) := Lib.hid (Nat.le_trans HSI.out (Nat.le_trans HB8.out.size hs8)); clear hr8 hk8 hs8)
            | ((with_reducible refine (HOW.out _ HR8.out).1.mono ?_); rintro e w9 ⟨rfl, hb9⟩; have HR9 := Lib.hid (HR8.out.below hb9); have HKP9 : Hid (∀ g, K7 g → w9.heap[g]? = w7.heap[g]?) := Lib.hid (fun g hg => (hb9.block g (HR8.out.kept g hg)).trans (HKP8.out g hg)); have HS9 := Lib.hid (Nat.le_trans HS8.out hb9.size); clear hb9)
            | ((with_reducible refine (HOW.out _ HR9.out).2.mono ?_); rintro e wA ⟨rfl, hbA⟩; have HRA := Lib.hid (HR9.out.below hbA); have HKPA : Hid (∀ g, K7 g → wA.heap[g]? = w7.heap[g]?) := Lib.hid (fun g hg => (hbA.block g (HR9.out.kept g hg)).trans (HKP9.out g hg)); have HSA := Lib.hid (Nat.le_trans HS9.out hbA.size); have g1 := cell_blk ((HKPA.out _ HKK.out.2.1).trans HXD7.out) 1; clear hbA)
            | fail)
          go_roundw
          case rel => exact ⟨1, l9, 4, _, by decide, rfl, HRA.out, HKPA.out, .inr (.inl ⟨rfl, rfl, rfl⟩), (by have := HZ2.out; rw [← HCD.out] at this; exact this), HSA.out⟩
          case measure => simp [intOf]
        · have e0 := cell_blk ((hkp _ HKK.out.1).trans HXE.out) 4
          have e1 := cell_blk ((hkp _ HKK.out.1).trans HXE.out) 5
          have e2 := cell_blk ((hkp _ HKK.out.1).trans HXE.out) 6
          have e3 := cell_blk ((hkp _ HKK.out.1).trans HXE.out) 7
          have HKP := Lib.hid hkp
          have hdc := hdl
          rw [HCD.out] at hdc
          obtain ⟨z1, z2⟩ := step_pay hdc (by omega) (by omega)
          have HB8 := Lib.hid (one_below wr (.cells #[.int .i64 5, .string ⟨#[107]⟩, .int .i64 k, .int .i64 0] 39))
          have HX8 := Lib.hid (heap_alloc_new wr (.cells #[.int .i64 5, .string ⟨#[107]⟩, .int .i64 k, .int .i64 0] 39))
          have HDO := Lib.hid ((hri.below HB8.out).do' hdl ⟨5, kB, k, 0⟩ (by decide) (by have := HPD.out.len; (try rw [List.length_append]); simp; omega) (by omega))
          rw [z1] at HDO
          generalize (l'.step ⟨5, kB, k, 0⟩).2 = l9 at *
          have HOW := Lib.hid (fun W (h : Run W0 W bk l9 K7) => h.owe z2 (by decide))
          have HZ2 := Lib.hid z2
          have HSI := Lib.hid hsi
          have HRI := Lib.hid hri
          unfold kB at HDO
          unfold kB yB at HOW
          simp only [show ¬ ((5 : Int) = 4) by decide, if_true, if_false, decide_true, decide_false] at HOW HDO
          clear hkp hdl hdc z1 z2 hri hsi
          go_wp2_with (first
            | ((with_reducible refine HDO.out.mono ?_); rintro e w8 ⟨rfl, hr8, hk8, hs8⟩; have HR8 := Lib.hid hr8; have HKP8 : Hid (∀ g, K7 g → w8.heap[g]? = w7.heap[g]?) := Lib.hid (fun g hg => (hk8 g hg).trans ((HB8.out.block g (HRI.out.kept g hg)).trans (HKP.out g hg))); have HS8 : Hid (w7.heap.size ≤ w8.heap.size) := Lib.hid (Nat.le_trans HSI.out (Nat.le_trans HB8.out.size hs8)); clear hr8 hk8 hs8)
            | ((with_reducible refine (HOW.out _ HR8.out).1.mono ?_); rintro e w9 ⟨rfl, hb9⟩; have HR9 := Lib.hid (HR8.out.below hb9); have HKP9 : Hid (∀ g, K7 g → w9.heap[g]? = w7.heap[g]?) := Lib.hid (fun g hg => (hb9.block g (HR8.out.kept g hg)).trans (HKP8.out g hg)); have HS9 := Lib.hid (Nat.le_trans HS8.out hb9.size); clear hb9)
            | ((with_reducible refine (HOW.out _ HR9.out).2.mono ?_); rintro e wA ⟨rfl, hbA⟩; have HRA := Lib.hid (HR9.out.below hbA); have HKPA : Hid (∀ g, K7 g → wA.heap[g]? = w7.heap[g]?) := Lib.hid (fun g hg => (hbA.block g (HR9.out.kept g hg)).trans (HKP9.out g hg)); have HSA := Lib.hid (Nat.le_trans HS9.out hbA.size); have g1 := cell_blk ((HKPA.out _ HKK.out.2.1).trans HXD7.out) 1; clear hbA)
            | fail)
          go_roundw
          case rel => exact ⟨2, l9, 5, _, by decide, rfl, HRA.out, HKPA.out, .inr (.inr (.inl ⟨rfl, rfl, rfl⟩)), (by have := HZ2.out; rw [← HCD.out] at this; exact this), HSA.out⟩
          case measure => simp [intOf]
        · have e0 := cell_blk ((hkp _ HKK.out.1).trans HXE.out) 8
          have e1 := cell_blk ((hkp _ HKK.out.1).trans HXE.out) 9
          have e2 := cell_blk ((hkp _ HKK.out.1).trans HXE.out) 10
          have e3 := cell_blk ((hkp _ HKK.out.1).trans HXE.out) 11
          have HKP := Lib.hid hkp
          have hdc := hdl
          rw [HCD.out] at hdc
          obtain ⟨z1, z2⟩ := step_reim hdc (by omega) (by omega)
          have HB8 := Lib.hid (one_below wr (.cells #[.int .i64 6, .string ⟨#[121]⟩, .int .i64 k, .int .i64 0] 39))
          have HX8 := Lib.hid (heap_alloc_new wr (.cells #[.int .i64 6, .string ⟨#[121]⟩, .int .i64 k, .int .i64 0] 39))
          have HDO := Lib.hid ((hri.below HB8.out).do' hdl ⟨6, yB, k, 0⟩ (by decide) (by have := HPD.out.len; (try rw [List.length_append]); simp; omega) (by omega))
          rw [z1] at HDO
          generalize (l'.step ⟨6, yB, k, 0⟩).2 = l9 at *
          have HOW := Lib.hid (fun W (h : Run W0 W bk l9 K7) => h.owe z2 (by decide))
          have HZ2 := Lib.hid z2
          have HSI := Lib.hid hsi
          have HRI := Lib.hid hri
          unfold yB at HDO
          unfold kB yB at HOW
          simp only [show ¬ ((6 : Int) = 4) by decide, show ¬ ((6 : Int) = 5) by decide, if_false, decide_false] at HOW HDO
          clear hkp hdl hdc z1 z2 hri hsi
          go_wp2_with (first
            | ((with_reducible refine HDO.out.mono ?_); rintro e w8 ⟨rfl, hr8, hk8, hs8⟩; have HR8 := Lib.hid hr8; have HKP8 : Hid (∀ g, K7 g → w8.heap[g]? = w7.heap[g]?) := Lib.hid (fun g hg => (hk8 g hg).trans ((HB8.out.block g (HRI.out.kept g hg)).trans (HKP.out g hg))); have HS8 : Hid (w7.heap.size ≤ w8.heap.size) := Lib.hid (Nat.le_trans HSI.out (Nat.le_trans HB8.out.size hs8)); clear hr8 hk8 hs8)
            | ((with_reducible refine (HOW.out _ HR8.out).1.mono ?_); rintro e w9 ⟨rfl, hb9⟩; have HR9 := Lib.hid (HR8.out.below hb9); have HKP9 : Hid (∀ g, K7 g → w9.heap[g]? = w7.heap[g]?) := Lib.hid (fun g hg => (hb9.block g (HR8.out.kept g hg)).trans (HKP8.out g hg)); have HS9 := Lib.hid (Nat.le_trans HS8.out hb9.size); clear hb9)
            | ((with_reducible refine (HOW.out _ HR9.out).2.mono ?_); rintro e wA ⟨rfl, hbA⟩; have HRA := Lib.hid (HR9.out.below hbA); have HKPA : Hid (∀ g, K7 g → wA.heap[g]? = w7.heap[g]?) := Lib.hid (fun g hg => (hbA.block g (HR9.out.kept g hg)).trans (HKP9.out g hg)); have HSA := Lib.hid (Nat.le_trans HS9.out hbA.size); have g1 := cell_blk ((HKPA.out _ HKK.out.2.1).trans HXD7.out) 1; clear hbA)
            | fail)
          go_roundw
          case rel => exact ⟨3, l9, 6, _, by decide, rfl, HRA.out, HKPA.out, .inr (.inr (.inr ⟨rfl, rfl, rfl⟩)), (by have := HZ2.out; rw [← HCD.out] at this; exact this), HSA.out⟩
          case measure => simp [intOf]
        · have HXD8 := Lib.hid ((hkp _ HKK.out.2.1).trans HXD7.out)
          have c0 := cell_blk HXD8.out 0
          have c1 := cell_blk HXD8.out 1
          have HRW := Lib.hid (Any.ownsRow_same HO7.out (fun b hb => hkp b (HKK.out.2.2 b hb)))
          have HRX := Lib.hid (hri.sub HKK.out.2.2)
          have HPN := Lib.hid (HPD.out.next (d := ⟨k, 1 + n⟩) (HM.out.trans HM0.out))
          have HDX := Lib.hid hdl
          have HLD : Hid (paid.length + 1 ≤ maxLen ∧ (paid.length + 1) * 16 ≤ 140737488355328 ∧ W0.heap.size ≤ wr.heap.size) := Lib.hid ⟨by have := HPD.out.len; simp only [maxLen]; omega, by have := HPD.out.len; omega, hri.bel.size⟩
          have hb2 := draws_range _ HPN.out.ok
          have hb3 := draws_range _ HPD.out.ok
          rw [dsum_append] at hb2
          have hb4 : dsum [(⟨k, 1 + n⟩ : Dr)] = 1 + n := by simp [dsum]
          rw [hb4] at hb2
          have HSM : Hid (dsum (paid ++ [⟨k, 1 + n⟩]) = dsum paid + (1 + n)) := Lib.hid (by rw [dsum_append, hb4])
          generalize dsum paid = tot at *
          have f5 : IntKind.i64.wrap (tot + (1 + n)) = tot + (1 + n) := IntWalk.i64_in _ (by omega)
          clear hri hkp hdl hsi hb2 hb3 hb4
          go_wp2_with (first
            | (((with_reducible refine Any.wpl_push ?_ ?_ ?_ Tryz.underlying40 HI.out.1 HI.out.2.1 HI.out.2.2.1 HI.out.2.2.2 ?_ (by decide) ?_ ((dr_one (k : Int) (1 + n))) (HRW.out) HLD.out.1 HLD.out.2.1 HLD.out.2.2 ?_); rfl; rfl; rfl; rfl; rfl; intro v9 w9 hown9 hgrow9 hwho9); have HRP := Lib.hid (HRX.out.push HRW.out hgrow9 hown9 hwho9); have HO9 := Lib.hid hown9; have g1 := cell_blk ((hgrow9.block _ (lt_blk HXD8.out) (fun e => by have := HPB.out bd e.symm; omega)).trans HXD8.out) 1; clear hown9 hgrow9 hwho9)
            | fail)
          go_roundw
          case rel => exact ⟨k + 1, l', 6, ⟨k, 1 + n⟩, paid ++ [⟨k, 1 + n⟩], HKL.out, by go_num, by rw [HSM.out], (by have h := HO9.out; rw [List.length_append, drCells_append]; exact h), HRP.out, HDX.out.mono (by omega) (by omega), .inr rfl, HPN.out⟩
          case measure => have := HKL.out; (simp [intOf]) <;> omega
    · obtain rfl : k = D.length := by omega
      have HLE := Lib.hid (left_yes HBN.out HPD.out.ok HPD.out.most (.slice ap paid.length cp) wr (own_draws HROW.out rfl))
      have HCP : cD.part = part := by rw [HCD.out]; rfl
      have hb1 := HMB.out
      have hb2 := draws_range paid HPD.out.ok
      have hmo := HPD.out.most
      have hle1 : cD.part = false → paid.length ≤ 1 := HPD.out.one
      have HXC5 := Lib.hid (blk hrun.bel (lt_blk HXC0.out) HXC0.out)
      have HBF := Lib.hid (HBC.out.trans (hrun.bel.mono HBC.out.size))
      generalize cD.most = mo at *
      generalize dsum paid = tot at *
      have f1 : IntKind.i64.wrap (mo - tot) = mo - tot := IntWalk.i64_in _ (by omega)
      have t1 : decide (tot ≤ mo) = true := decide_eq_true hmo
      rw [HCP] at hle1
      clear hb1 hb2 hmo hrow hrun hdl hst hpd hk hlt HCP
      cases part
      · have t2 : decide ((paid.length : Int) ≤ 1) = true := decide_eq_true (by have := hle1 rfl; omega)
        have t3 : decide (paid.length ≤ 1) = true := decide_eq_true (hle1 rfl)
        clear hle1
        go_wp2_with (first
          | ((with_reducible refine load_cr (.tmp 11) bc cD _ ?_ ?_ HXC5.out ?_); rfl; rfl)
          | ((with_reducible refine HLE.out.mono ?_); rintro e w6 ⟨rfl, hb6⟩; have HB6 := Lib.hid (HBF.out.trans (hb6.mono HBF.out.size)); clear hb6)
          | fail)
        go_ret
        exact retB rfl HB6.out
      · clear hle1
        go_wp2_with (first
          | ((with_reducible refine load_cr (.tmp 11) bc cD _ ?_ ?_ HXC5.out ?_); rfl; rfl)
          | ((with_reducible refine HLE.out.mono ?_); rintro e w6 ⟨rfl, hb6⟩; have HB6 := Lib.hid (HBF.out.trans (hb6.mono HBF.out.size)); clear hb6)
          | fail)
        go_ret
        exact retB rfl HB6.out
end Go.Proofs.YtbigoifpfkdkjaaGreatDoor.Sc
