/- In two parts. -/
import Derived.Test.YtnlfhncbnfmccaaLawPl26
import Derived.Test.YtnlfhncbnfmccaaTerms26
import Derived.Test.YtnlfhncbnfmccaaPayO26
namespace Go.Proofs.Ytnlfhncbnfmccaa.lienTwice
open Go.ChangeShapes Go.WideShapes Go.ChangeAt Go.RowKit Go Sc
set_option maxRecDepth 100000

def EntOk (e : List (ByteArray × Int)) : Prop := (∀ q ∈ e, 0 ≤ q.2 ∧ q.2 ≤ 1099511627776) ∧ e.length ≤ 20
theorem ent_ok {r : List Pg} (ht : ∀ x ∈ r, 1 ≤ x.amt ∧ x.amt ≤ 1099511627776) (hl : r.length ≤ 20) {s : Int} (hs : 0 ≤ s) : EntOk (payE r s) := by
  have hp := payE_ok (r := r) (fun x hx => (ht x hx).1) hs
  refine ⟨fun q hq => ?_, Nat.le_trans hp.1 hl⟩
  obtain ⟨i, hi, rfl⟩ := List.getElem_of_mem hq
  have hi' : i < r.length := Nat.lt_of_lt_of_le hi hp.1
  have h1 := hp.2 i hi hi'
  have h2 := ht r[i] (List.getElem_mem hi')
  omega
theorem sumW_append (a b : List (ByteArray × Int)) (who : ByteArray) : sumW (a ++ b) who = sumW a who + sumW b who := by
  induction a with
  | nil => simp [sumW]
  | cons p r ih => rw [List.cons_append, sumW, sumW, ih]; omega
theorem sumW_next {e : List (ByteArray × Int)} {k : Nat} (h : k < e.length) (who : ByteArray) : sumW (e.take (k + 1)) who = sumW (e.take k) who + (if e[k].1 = who then e[k].2 else 0) := by
  rw [List.take_succ_eq_append_getElem h, sumW_append, sumW, sumW, Int.add_zero]
theorem sumW_bd0 (who : ByteArray) : ∀ (e : List (ByteArray × Int)), (∀ q ∈ e, 0 ≤ q.2 ∧ q.2 ≤ 1099511627776) → 0 ≤ sumW e who ∧ sumW e who ≤ 1099511627776 * (e.length : Int)
  | [], _ => by simp [sumW]
  | p :: r, h => by
    have h1 := h p List.mem_cons_self
    have h2 := sumW_bd0 who r fun q hq => h q (List.mem_cons_of_mem _ hq)
    rw [sumW, List.length_cons]
    split <;> omega
theorem sumW_bd {e : List (ByteArray × Int)} (h : EntOk e) (who : ByteArray) (k : Nat) : 0 ≤ sumW (e.take k) who ∧ sumW (e.take k) who ≤ 1099511627776 * 20 := by
  have h1 := sumW_bd0 who (e.take k) fun q hq => h.1 q (List.mem_of_mem_take hq)
  have h2 := List.length_take_le' k e
  have h3 := h.2
  omega
set_option maxHeartbeats 16000000 in
theorem walk (w : World) (l : List Dd) (vl : Value) (hsl : Sl w 8 vl (l.map Dd.row)) (_ : ∀ d ∈ l, d.fit) (t : ByteArray) (_ : t.size ≤ maxLen) (a : Int) (_ : (Lit.int .i64 a).wf = true) (b : Int) (_ : (Lit.int .i64 b).wf = true) (who : ByteArray) (_ : who.size ≤ maxLen) :
    Calls Try.prog 6 #[vl, .string t, .int .i64 a, .int .i64 b, .string who] w (RetB w true) := by
  have HAW := Lib.hid (awake_any w)
  have HHV := Lib.hid (fun W (hW : Below w.heap.size w W) => heavyD_any l 20 vl W (hsl.below hW (Nat.le_refl _)))
  have HSL := Lib.hid hsl
  obtain ⟨L, hL⟩ : ∃ L, L = deeds l := ⟨_, rfl⟩
  have HLL := Lib.hid hL
  clear hsl hL
  go_enter Try.func6, Try.ntmps6
  go_wp2_with (first
    | ((with_reducible refine HAW.out.mono ?_); rintro e w1 ⟨rfl, hb1⟩; have HB := Lib.hid hb1; clear hb1)
    | fail)
  refine (HHV.out _ HB.out).mono ?_
  rintro e w2 ⟨rfl, hb2⟩
  have HB2 := Lib.hid (HB.out.trans (hb2.mono HB.out.size))
  clear hb2
  generalize hq : heavyD l 20 = q
  cases q with
  | true =>
    clear hq
    go_wp2_with fail
    go_ret
    exact ⟨rfl, HB2.out⟩
  | false =>
  have HNO := Lib.hid (heavyD_no hq)
  clear hq
  by_cases c0 : 100 < t.size
  · skip
    go_wp2_with fail
    go_ret
    exact ⟨rfl, HB2.out⟩
  skip
  have HC0 := Lib.hid c0
  by_cases c1 : 100 < who.size
  · skip
    go_wp2_with fail
    go_ret
    exact ⟨rfl, HB2.out⟩
  skip
  have HC1 := Lib.hid c1
  by_cases c2 : a < 0
  · have t2 : decide (a < 0) = true := decide_eq_true c2
    go_wp2_with fail
    go_ret
    exact ⟨rfl, HB2.out⟩
  have t2 : decide (a < 0) = false := decide_eq_false c2
  have HC2 := Lib.hid c2
  by_cases c3 : b < 0
  · have t3 : decide (b < 0) = true := decide_eq_true c3
    go_wp2_with fail
    go_ret
    exact ⟨rfl, HB2.out⟩
  have t3 : decide (b < 0) = false := decide_eq_false c3
  have HC3 := Lib.hid c3
  by_cases c4 : 549755813888 < a
  · have t4 : decide (549755813888 < a) = true := decide_eq_true c4
    go_wp2_with fail
    go_ret
    exact ⟨rfl, HB2.out⟩
  have t4 : decide (549755813888 < a) = false := decide_eq_false c4
  have HC4 := Lib.hid c4
  by_cases c5 : 549755813888 < b
  · have t5 : decide (549755813888 < b) = true := decide_eq_true c5
    go_wp2_with fail
    go_ret
    exact ⟨rfl, HB2.out⟩
  have t5 : decide (549755813888 < b) = false := decide_eq_false c5
  have HC5 := Lib.hid c5
  have HLK : Hid (LnOk L ∧ L.length ≤ 20) := Lib.hid (by
    have h1 := HNO.out.1
    have h2 := deeds_len l
    rw [HLL.out]
    exact ⟨deeds_ok l, by omega⟩)
  have HGR := Lib.hid (grown_any l vl w2 (HSL.out.below HB2.out (Nat.le_refl _)) (by have := HNO.out.1; omega) HNO.out.2)
  unfold GrownP at HGR
  rw [← HLL.out] at HGR
  have HAB : Hid (0 ≤ a ∧ a ≤ 549755813888 ∧ 0 ≤ b ∧ b ≤ 549755813888) := Lib.hid (by omega)
  have HBA : Hid (badS a = false) := Lib.hid (by rw [badS, decide_eq_false (by omega : ¬ a < 0), decide_eq_false (by omega : ¬ 1099511627776 < a)]; rfl)
  have HBB : Hid (badS b = false) := Lib.hid (by rw [badS, decide_eq_false (by omega : ¬ b < 0), decide_eq_false (by omega : ¬ 1099511627776 < b)]; rfl)
  have HBC : Hid (badS (a + b) = false) := Lib.hid (by rw [badS, decide_eq_false (by omega : ¬ a + b < 0), decide_eq_false (by omega : ¬ 1099511627776 < a + b)]; rfl)
  clear HC0 HC1 HC2 HC3 HC4 HC5
  by_cases hn : ofT L t = []
  · have HN := Lib.hid hn
    clear hn
    go_wp2_with (first
      | ((with_reducible refine HGR.out.mono ?_); rintro e w3 ⟨F, bk, bm, vm, rfl, hx3, hs3, ho3, hF3, hb3⟩; have H3 := Lib.hid (And.intro hs3 (And.intro ho3 hF3)); have HX3 := Lib.hid hx3; have HB3 := Lib.hid (HB2.out.trans (hb3.mono HB2.out.size)); clear hs3 ho3 hF3 hb3 hx3
         have HCP := Lib.hid (copyX_any HX3.out (by have := HLK.out.2; omega)))
      | ((with_reducible refine HCP.out.mono ?_); rintro e w4 ⟨G, ck, cm, rfl, hy, hG, hb4⟩; have HB4 := Lib.hid (HB3.out.trans (hb4.mono HB3.out.size)); have HPN := Lib.hid (payNone_any (HX3.out.below hb4) t a HBA.out HN.out); clear hy hG hb4)
      | ((with_reducible refine HPN.out.mono ?_); rintro e w5 ⟨rfl, hb5⟩; have HB5 := Lib.hid (HB4.out.trans (hb5.mono HB4.out.size)); clear hb5)
      | fail)
    go_ret
    exact ⟨rfl, HB5.out⟩
  have HN := Lib.hid hn
  obtain ⟨R, hR⟩ : ∃ R, R = rankOf (ofT L t) := ⟨_, rfl⟩
  have HRR := Lib.hid hR
  have HAO : Hid (AmtOk R) := Lib.hid (by rw [hR]; exact rank_amts HLK.out.1 t)
  have HTP : Hid (∀ x ∈ R, 1 ≤ x.amt ∧ x.amt ≤ 1099511627776) := Lib.hid (by rw [hR]; exact rank_top HLK.out.1 t)
  have HRL : Hid (R.length ≤ 20) := Lib.hid (by rw [hR, rank_len]; exact Nat.le_trans (ofT_le L t) HLK.out.2)
  obtain ⟨E1, hE1⟩ : ∃ E, E = payE R a := ⟨_, rfl⟩
  obtain ⟨S1, hS1⟩ : ∃ S, S = payS R a := ⟨_, rfl⟩
  obtain ⟨L1, hL1⟩ : ∃ L1, L1 = paidL L t E1 := ⟨_, rfl⟩
  obtain ⟨R1, hR1⟩ : ∃ R1, R1 = rankOf (ofT L1 t) := ⟨_, rfl⟩
  have HLK1 : Hid (LnOk L1 ∧ L1.length ≤ 20) := Lib.hid (by
    rw [hL1, hE1, hR]
    exact ⟨paid_ok HLK.out.1 t (got_ok HLK.out.1 t HAB.out.1), Nat.le_trans (paidL_len _ _ _) HLK.out.2⟩)
  have HR1 : Hid (R1 = restR R a) := Lib.hid (by rw [hR1, hL1, hE1, hR]; exact rank_paid HLK.out.1 t HAB.out.1)
  have HAO1 : Hid (AmtOk R1) := Lib.hid (by rw [hR1]; exact rank_amts HLK1.out.1 t)
  have HTP1 : Hid (∀ x ∈ R1, 1 ≤ x.amt ∧ x.amt ≤ 1099511627776) := Lib.hid (by rw [hR1]; exact rank_top HLK1.out.1 t)
  have HRL1 : Hid (R1.length ≤ 20) := Lib.hid (by rw [hR1, rank_len]; exact Nat.le_trans (ofT_le L1 t) HLK1.out.2)
  obtain ⟨E2, hE2⟩ : ∃ E, E = payE R1 b := ⟨_, rfl⟩
  obtain ⟨S2, hS2⟩ : ∃ S, S = payS R1 b := ⟨_, rfl⟩
  obtain ⟨E3, hE3⟩ : ∃ E, E = payE R (a + b) := ⟨_, rfl⟩
  obtain ⟨S3, hS3⟩ : ∃ S, S = payS R (a + b) := ⟨_, rfl⟩
  obtain ⟨LY, hLY⟩ : ∃ LY, LY = paidL L t E3 := ⟨_, rfl⟩
  have hab0 : 0 ≤ a + b := by have := HAB.out; omega
  have HLKY : Hid (LnOk LY ∧ LY.length ≤ 20) := Lib.hid (by
    rw [hLY, hE3, hR]
    exact ⟨paid_ok HLK.out.1 t (got_ok HLK.out.1 t hab0), Nat.le_trans (paidL_len _ _ _) HLK.out.2⟩)
  obtain ⟨Z, hZ⟩ : ∃ Z, Z = restR R (a + b) := ⟨_, rfl⟩
  have HRY : Hid (rankOf (ofT LY t) = Z) := Lib.hid (by rw [hLY, hE3, hZ, hR]; exact rank_paid HLK.out.1 t hab0)
  have HZ : Hid (Z = restR R1 b) := Lib.hid (by rw [hZ, HR1.out]; exact restR_two HAO.out HAB.out.1 HAB.out.2.2.1)
  have HSS : Hid (S1 + S2 = S3 ∧ 0 ≤ S1 ∧ S1 ≤ 549755813888 ∧ 0 ≤ S2 ∧ S2 ≤ 549755813888) := Lib.hid (by
    have h1 := payS_range HAB.out.1 HAO.out
    have h2 := payS_range HAB.out.2.2.1 HAO1.out
    have h3 := HAB.out
    rw [← hS1] at h1
    rw [← hS2] at h2
    refine ⟨?_, h1.1, by omega, h2.1, by omega⟩
    rw [hS1, hS2, hS3, HR1.out]
    exact (payS_two HAO.out HAB.out.1 HAB.out.2.2.1).symm)
  have HEB1 : Hid (EntOk E1) := Lib.hid (by rw [hE1]; exact ent_ok HTP.out HRL.out HAB.out.1)
  have HEB2 : Hid (EntOk E2) := Lib.hid (by rw [hE2]; exact ent_ok HTP1.out HRL1.out HAB.out.2.2.1)
  have HEB3 : Hid (EntOk E3) := Lib.hid (by rw [hE3]; exact ent_ok HTP.out HRL.out hab0)
  obtain ⟨H1, hH1⟩ : ∃ H, H = sumW E1 who := ⟨_, rfl⟩
  obtain ⟨H2, hH2⟩ : ∃ H, H = sumW E2 who := ⟨_, rfl⟩
  obtain ⟨M3, hH3⟩ : ∃ H, H = sumW E3 who := ⟨_, rfl⟩
  have HHH : Hid (H1 + H2 = M3 ∧ 0 ≤ H1 ∧ H1 ≤ 1099511627776 * 20) := Lib.hid (by
    have h1 := sumW_bd HEB1.out who E1.length
    rw [List.take_length, ← hH1] at h1
    refine ⟨?_, h1.1, h1.2⟩
    rw [hH1, hH2, hH3, hE1, hE2, hE3, HR1.out]
    exact sumW_two HAO.out who HAB.out.1 HAB.out.2.2.1)
  have HE1 := Lib.hid (And.intro hE1 (And.intro hS1 (And.intro hL1 hR1)))
  have HE2 := Lib.hid (And.intro hE2 hS2)
  have HE3 := Lib.hid (And.intro hE3 (And.intro hS3 hLY))
  have HW1 := Lib.hid hH1
  have HW2 := Lib.hid hH2
  have HW3 := Lib.hid hH3
  clear hn hR hE1 hS1 hL1 hR1 hE2 hS2 hE3 hS3 hLY hZ hab0 hH1 hH2 hH3
  have a0 : 0 ≤ a := HAB.out.1
  have a1 : a ≤ 549755813888 := HAB.out.2.1
  have b0 : 0 ≤ b := HAB.out.2.2.1
  have b1 : b ≤ 549755813888 := HAB.out.2.2.2
  by_cases hn1 : ofT L1 t = []
  · have HN1 := Lib.hid hn1
    have hr1 : R1 = [] := by rw [HE1.out.2.2.2, hn1]; rfl
    have HLK2 := Lib.hid HLK1.out
    have HRX : Hid (rankOf (ofT L1 t) = Z) := Lib.hid (by rw [HZ.out, ← HE1.out.2.2.2, hr1]; rfl)
    have HS2 : Hid (S2 = b) := Lib.hid (by rw [HE2.out.2, hr1]; rfl)
    have HH2 : Hid (H2 = 0) := Lib.hid (by rw [HW2.out, HE2.out.1, hr1]; rfl)
    have h20 := HH2.out
    have s20 := HS2.out.symm
    subst h20 s20
    clear hn1 hr1
    go_wp2_with (first
      | ((with_reducible refine HGR.out.mono ?_); rintro e w3 ⟨F, bk, bm, vm, rfl, hx3, hs3, ho3, hF3, hb3⟩; have H3 := Lib.hid (And.intro hs3 (And.intro ho3 hF3)); have HX3 := Lib.hid hx3; have HB3 := Lib.hid (HB2.out.trans (hb3.mono HB2.out.size)); clear hs3 ho3 hF3 hb3 hx3
         have HCP := Lib.hid (copyX_any HX3.out (by have := HLK.out.2; omega)))
      | ((with_reducible refine HCP.out.mono ?_); rintro e w4 ⟨G, ck, cm, rfl, hy, hG, hb4⟩
         have HY4 := Lib.hid hy
         have HGB : Hid (∀ k, G k → w3.heap.size ≤ k ∧ k < w4.heap.size) := Lib.hid (fun k hk => ⟨hG k hk, hy.lt k hk⟩)
         have HFB : Hid (∀ k, F k → w.heap.size ≤ k ∧ k < w3.heap.size) := Lib.hid (fun k hk => ⟨Nat.le_trans HB2.out.size (H3.out.2.2 k hk), HX3.out.lt k hk⟩)
         have HB4 := Lib.hid (HB3.out.trans (hb4.mono HB3.out.size)); have HX4 := Lib.hid (HX3.out.below hb4)
         have HP1 := Lib.hid (payXO_any HX4.out HLK.out.1 t a HBA.out HLK.out.2 HN.out)
         unfold PayXO at HP1
         rw [← HRR.out, ← HE1.out.1, ← HE1.out.2.1, ← HE1.out.2.2.1] at HP1; clear hy hG hb4)
      | ((with_reducible refine HP1.out.mono ?_); rintro e w5 ⟨F5, v1, rfl, hx5, hf5, hk5, hs5, ho5, hv5⟩
         obtain ⟨ad1, cp1, rfl⟩ : ∃ a c, v1 = .slice a E1.length c := by simpa using hs5.shape
         have HX5 := Lib.hid hx5; have HS5 := Lib.hid hs5; have HO5 := Lib.hid (And.intro ho5 hv5)
         have HF5 : Hid (∀ k, F5 k → w.heap.size ≤ k ∧ (k < w3.heap.size ∨ w4.heap.size ≤ k)) := Lib.hid (fun k hk => (hf5 k hk).elim (fun h => ⟨(HFB.out k h).1, .inl (HFB.out k h).2⟩) (fun h => ⟨Nat.le_trans HB4.out.size h, .inr h⟩))
         have HY5 := Lib.hid (HY4.out.keep hk5 (fun k hg hf => by have h1 := HGB.out k hg; have h2 := HFB.out k hf; omega))
         have HB5 := Lib.hid (Keep.behind HB4.out hk5 HB4.out.size (fun k hlt hf => by have h2 := HFB.out k hf; omega))
         have HL45 : Hid (w4.heap.size ≤ w5.heap.size) := Lib.hid hk5.size
         have HPN := Lib.hid (payNone_any HX5.out t b HBB.out HN1.out); clear hx5 hf5 hk5 hs5 ho5 hv5)
      | ((with_reducible refine HPN.out.mono ?_); rintro e w6 ⟨rfl, hb6⟩
         have HX6 := Lib.hid (HX5.out.below hb6); have HF6 := Lib.hid HF5.out; have HS16 := Lib.hid (HS5.out.below hb6 (Nat.le_refl _)); have HB6 := Lib.hid (HB5.out.trans (hb6.mono HB5.out.size))
         have HP3 := Lib.hid (payXO_any (HY5.out.below hb6) HLK.out.1 t (a + b) HBC.out HLK.out.2 HN.out)
         unfold PayXO at HP3
         rw [← HRR.out, ← HE3.out.1, ← HE3.out.2.1, ← HE3.out.2.2] at HP3; clear hb6)
      | ((with_reducible refine HP3.out.mono ?_); rintro e w7 ⟨G7, v3, rfl, hy7, hg7, hk7, hs7, -, -⟩
         obtain ⟨ad3, cp3, rfl⟩ : ∃ a c, v3 = .slice a E3.length c := by simpa using hs7.shape
         have HY7 := Lib.hid hy7; have HS7 := Lib.hid hs7
         have HX7 := Lib.hid (HX6.out.keep hk7 (fun k hf hg => by have h1 := HGB.out k hg; have h2 := (HF6.out k hf).2; omega))
         have HB7 := Lib.hid (Keep.behind HB6.out hk7 HB6.out.size (fun k hlt hg => by have h1 := HGB.out k hg; have h2 := HB3.out.size; omega))
         have HS17 := Lib.hid (HS16.out.keep hk7 (fun k hk hg => by have h1 := HGB.out k hg; have h2 := HO5.out.2 k hk; omega))
         clear hy7 hg7 hk7 hs7)
      | fail)
    have hl26 : E1.length ≤ 9223372036854775807 := by have := HEB1.out.2; omega
    go_loop [24, 26] (fun x i => ∃ (k : Nat) (A : Int), k ≤ E1.length ∧ i = .int .i64 k ∧ x = .int .i64 (A) ∧ A = sumW (E1.take k) who ∧ 0 ≤ A ∧ A ≤ 1099511627776 * 20) (fun _ i => E1.length - (intOf i).toNat)
    case atStart => exact ⟨0, 0, Nat.zero_le _, rfl, by first | rfl | rw [Int.add_zero], rfl, by omega, by omega⟩
    case round =>
      obtain ⟨k, A, hk, rfl, rfl, hA, hA0, hA1⟩ := hrel
      by_cases hlt : k < E1.length
      · obtain ⟨b', off', he, -, hb', hc'⟩ := HS17.out.at (i := k) (by simpa using hlt)
        cases he
        have e0 : w7.cell? ⟨b', off' + k * 3, none⟩ = some (.string E1[k].1) := hc' k (entRow E1[k]) (by simp [hlt]) 0 _ rfl
        have e2 := hc' k (entRow E1[k]) (by simp [hlt]) 2 _ rfl
        have HNX := Lib.hid (sumW_next hlt who)
        rw [← hA] at HNX
        have HBD := Lib.hid (sumW_bd HEB1.out who (k + 1))
        have hb1 := HEB1.out.1 E1[k] (List.getElem_mem hlt)
        have tr : ((k : Nat) : Int) < (E1.length : Int) := by omega
        generalize E1[k] = y at *
        obtain ⟨yc, ya⟩ := y
        simp only at e0 e2 hb1
        obtain ⟨p1, p2⟩ := hb1
        have s2 := str_beq yc who
        clear hc' hb' hA
        by_cases hq : yc = who
        · rw [decide_eq_true hq] at s2
          have HNX2 : Hid (sumW (E1.take (k + 1)) who = A + ya) := Lib.hid (by rw [HNX.out]; show A + (if yc = who then ya else 0) = _; rw [if_pos hq])
          rw [HNX2.out] at HBD
          clear hq
          go_wp2_with fail
          go_round
          case rel => exact ⟨k + 1, A + ya, by omega, by go_num, by first | go_num | (congr 1; omega), HNX2.out.symm, HBD.out.1, HBD.out.2⟩
          case measure => (simp [intOf]) <;> omega
        · rw [decide_eq_false hq] at s2
          have HNX2 : Hid (sumW (E1.take (k + 1)) who = A) := Lib.hid (by rw [HNX.out]; show A + (if yc = who then ya else 0) = _; rw [if_neg hq, Int.add_zero])
          rw [HNX2.out] at HBD
          clear hq
          go_wp2_with fail
          go_round
          case rel => exact ⟨k + 1, A, by omega, by go_num, rfl, HNX2.out.symm, HBD.out.1, HBD.out.2⟩
          case measure => (simp [intOf]) <;> omega
      · have hA' : H1 = A := by rw [HW1.out, hA, List.take_of_length_le (by omega)]
        subst hA'
        clear hA hA0 hA1 hk
        have h1a : 0 ≤ H1 := HHH.out.2.1
        have h1b : H1 ≤ 1099511627776 * 20 := HHH.out.2.2
        go_wp2_with fail
        refine wp_loop_rounds 1 ?_
        rw [rounds_succ]
        go_wp2_with fail
        have hl28 : E3.length ≤ 9223372036854775807 := by have := HEB3.out.2; omega
        go_loop [25, 28] (fun x i => ∃ (k : Nat) (A : Int), k ≤ E3.length ∧ i = .int .i64 k ∧ x = .int .i64 (A) ∧ A = sumW (E3.take k) who ∧ 0 ≤ A ∧ A ≤ 1099511627776 * 20) (fun _ i => E3.length - (intOf i).toNat)
        case atStart => exact ⟨0, 0, Nat.zero_le _, rfl, by first | rfl | rw [Int.add_zero], rfl, by omega, by omega⟩
        case round =>
          obtain ⟨k, A, hk, rfl, rfl, hA, hA0, hA1⟩ := hrel
          by_cases hlt : k < E3.length
          · obtain ⟨b', off', he, -, hb', hc'⟩ := HS7.out.at (i := k) (by simpa using hlt)
            cases he
            have e0 : w7.cell? ⟨b', off' + k * 3, none⟩ = some (.string E3[k].1) := hc' k (entRow E3[k]) (by simp [hlt]) 0 _ rfl
            have e2 := hc' k (entRow E3[k]) (by simp [hlt]) 2 _ rfl
            have HNX := Lib.hid (sumW_next hlt who)
            rw [← hA] at HNX
            have HBD := Lib.hid (sumW_bd HEB3.out who (k + 1))
            have hb1 := HEB3.out.1 E3[k] (List.getElem_mem hlt)
            have tr : ((k : Nat) : Int) < (E3.length : Int) := by omega
            generalize E3[k] = y at *
            obtain ⟨yc, ya⟩ := y
            simp only at e0 e2 hb1
            obtain ⟨p1, p2⟩ := hb1
            have s2 := str_beq yc who
            clear hc' hb' hA
            by_cases hq : yc = who
            · rw [decide_eq_true hq] at s2
              have HNX2 : Hid (sumW (E3.take (k + 1)) who = A + ya) := Lib.hid (by rw [HNX.out]; show A + (if yc = who then ya else 0) = _; rw [if_pos hq])
              rw [HNX2.out] at HBD
              clear hq
              go_wp2_with fail
              go_round
              case rel => exact ⟨k + 1, A + ya, by omega, by go_num, by first | go_num | (congr 1; omega), HNX2.out.symm, HBD.out.1, HBD.out.2⟩
              case measure => (simp [intOf]) <;> omega
            · rw [decide_eq_false hq] at s2
              have HNX2 : Hid (sumW (E3.take (k + 1)) who = A) := Lib.hid (by rw [HNX.out]; show A + (if yc = who then ya else 0) = _; rw [if_neg hq, Int.add_zero])
              rw [HNX2.out] at HBD
              clear hq
              go_wp2_with fail
              go_round
              case rel => exact ⟨k + 1, A, by omega, by go_num, rfl, HNX2.out.symm, HBD.out.1, HBD.out.2⟩
              case measure => (simp [intOf]) <;> omega
          · have hA' : M3 = A := by rw [HW3.out, hA, List.take_of_length_le (by omega)]
            subst hA'
            clear hA hA0 hA1 hk
            have HRA := Lib.hid (rankX_any HX7.out t HLK2.out.2)
            rw [HRX.out] at HRA
            obtain ⟨h1, s0, s1, s2, s3⟩ := HSS.out
            have g2 : (S1 + b == S3) = true := by simp [h1]
            have g3 : (H1 == M3) = true := by have := HHH.out.1; simp; omega
            clear h1
            go_wp2_with (first
              | ((with_reducible refine HRA.out.mono ?_); rintro e w8 ⟨v8, rfl, hown8, hb8⟩
                 have HS8 := Lib.hid (own_pgs hown8 rfl); have HY8 := Lib.hid (HY7.out.below hb8); have HB8 := Lib.hid (HB7.out.trans (hb8.mono HB7.out.size))
                 have HRB := Lib.hid (rankX_any HY8.out t HLKY.out.2); rw [HRY.out] at HRB; clear hown8 hb8)
              | ((with_reducible refine HRB.out.mono ?_); rintro e w9 ⟨v9, rfl, hown9, hb9⟩
                 have HB9 := Lib.hid (HB8.out.trans (hb9.mono HB8.out.size))
                 have HSM := Lib.hid (refSameP_any Z Z _ _ w9 (HS8.out.below hb9 (Nat.le_refl _)) (own_pgs hown9 rfl)); rw [decide_eq_true (rfl : Z = Z)] at HSM; clear hown9 hb9)
              | ((with_reducible refine HSM.out.mono ?_); rintro e w10 ⟨rfl, hb10⟩; have HB10 := Lib.hid (HB9.out.trans (hb10.mono HB9.out.size)); clear hb10)
              | fail)
            go_ret
            exact ⟨rfl, HB10.out⟩
  · have HN1 := Lib.hid hn1
    obtain ⟨L2, hL2⟩ : ∃ L2, L2 = paidL L1 t E2 := ⟨_, rfl⟩
    have HL2 := Lib.hid hL2
    have HLK2 : Hid (LnOk L2 ∧ L2.length ≤ 20) := Lib.hid (by
      rw [hL2, HE2.out.1, HE1.out.2.2.2]
      exact ⟨paid_ok HLK1.out.1 t (got_ok HLK1.out.1 t HAB.out.2.2.1), Nat.le_trans (paidL_len _ _ _) HLK1.out.2⟩)
    have HRX : Hid (rankOf (ofT L2 t) = Z) := Lib.hid (by rw [hL2, HE2.out.1, HZ.out, HE1.out.2.2.2]; exact rank_paid HLK1.out.1 t HAB.out.2.2.1)
    clear hn1 hL2
    go_wp2_with (first
      | ((with_reducible refine HGR.out.mono ?_); rintro e w3 ⟨F, bk, bm, vm, rfl, hx3, hs3, ho3, hF3, hb3⟩; have H3 := Lib.hid (And.intro hs3 (And.intro ho3 hF3)); have HX3 := Lib.hid hx3; have HB3 := Lib.hid (HB2.out.trans (hb3.mono HB2.out.size)); clear hs3 ho3 hF3 hb3 hx3
         have HCP := Lib.hid (copyX_any HX3.out (by have := HLK.out.2; omega)))
      | ((with_reducible refine HCP.out.mono ?_); rintro e w4 ⟨G, ck, cm, rfl, hy, hG, hb4⟩
         have HY4 := Lib.hid hy
         have HGB : Hid (∀ k, G k → w3.heap.size ≤ k ∧ k < w4.heap.size) := Lib.hid (fun k hk => ⟨hG k hk, hy.lt k hk⟩)
         have HFB : Hid (∀ k, F k → w.heap.size ≤ k ∧ k < w3.heap.size) := Lib.hid (fun k hk => ⟨Nat.le_trans HB2.out.size (H3.out.2.2 k hk), HX3.out.lt k hk⟩)
         have HB4 := Lib.hid (HB3.out.trans (hb4.mono HB3.out.size)); have HX4 := Lib.hid (HX3.out.below hb4)
         have HP1 := Lib.hid (payXO_any HX4.out HLK.out.1 t a HBA.out HLK.out.2 HN.out)
         unfold PayXO at HP1
         rw [← HRR.out, ← HE1.out.1, ← HE1.out.2.1, ← HE1.out.2.2.1] at HP1; clear hy hG hb4)
      | ((with_reducible refine HP1.out.mono ?_); rintro e w5 ⟨F5, v1, rfl, hx5, hf5, hk5, hs5, ho5, hv5⟩
         obtain ⟨ad1, cp1, rfl⟩ : ∃ a c, v1 = .slice a E1.length c := by simpa using hs5.shape
         have HX5 := Lib.hid hx5; have HS5 := Lib.hid hs5; have HO5 := Lib.hid (And.intro ho5 hv5)
         have HF5 : Hid (∀ k, F5 k → w.heap.size ≤ k ∧ (k < w3.heap.size ∨ w4.heap.size ≤ k)) := Lib.hid (fun k hk => (hf5 k hk).elim (fun h => ⟨(HFB.out k h).1, .inl (HFB.out k h).2⟩) (fun h => ⟨Nat.le_trans HB4.out.size h, .inr h⟩))
         have HY5 := Lib.hid (HY4.out.keep hk5 (fun k hg hf => by have h1 := HGB.out k hg; have h2 := HFB.out k hf; omega))
         have HB5 := Lib.hid (Keep.behind HB4.out hk5 HB4.out.size (fun k hlt hf => by have h2 := HFB.out k hf; omega))
         have HL45 : Hid (w4.heap.size ≤ w5.heap.size) := Lib.hid hk5.size
         have HP2 := Lib.hid (payXO_any HX5.out HLK1.out.1 t b HBB.out HLK1.out.2 HN1.out)
         unfold PayXO at HP2
         rw [← HE1.out.2.2.2, ← HE2.out.1, ← HE2.out.2, ← HL2.out] at HP2; clear hx5 hf5 hk5 hs5 ho5 hv5)
      | ((with_reducible refine HP2.out.mono ?_); rintro e w6 ⟨F6, v2, rfl, hx6, hf6, hk6, hs6, -, hv6⟩
         obtain ⟨ad2, cp2, rfl⟩ : ∃ a c, v2 = .slice a E2.length c := by simpa using hs6.shape
         have HX6 := Lib.hid hx6; have HS26 := Lib.hid hs6; have HV26 := Lib.hid hv6
         have HF6 : Hid (∀ k, F6 k → w.heap.size ≤ k ∧ (k < w3.heap.size ∨ w4.heap.size ≤ k)) := Lib.hid (fun k hk => (hf6 k hk).elim (HF5.out k) (fun h => ⟨Nat.le_trans HB5.out.size h, .inr (Nat.le_trans HL45.out h)⟩))
         have HS16 := Lib.hid (HS5.out.keep hk6 HO5.out.1)
         have HY6 := Lib.hid (HY5.out.keep hk6 (fun k hg hf => by have h1 := HGB.out k hg; have h2 := (HF5.out k hf).2; omega))
         have HB6 := Lib.hid (Keep.behind HB5.out hk6 HB5.out.size (fun k hlt hf => by have h2 := (HF5.out k hf).1; omega))
         have HP3 := Lib.hid (payXO_any HY6.out HLK.out.1 t (a + b) HBC.out HLK.out.2 HN.out)
         unfold PayXO at HP3
         rw [← HRR.out, ← HE3.out.1, ← HE3.out.2.1, ← HE3.out.2.2] at HP3; clear hx6 hf6 hk6 hs6 hv6)
      | ((with_reducible refine HP3.out.mono ?_); rintro e w7 ⟨G7, v3, rfl, hy7, hg7, hk7, hs7, -, -⟩
         obtain ⟨ad3, cp3, rfl⟩ : ∃ a c, v3 = .slice a E3.length c := by simpa using hs7.shape
         have HY7 := Lib.hid hy7; have HS7 := Lib.hid hs7
         have HX7 := Lib.hid (HX6.out.keep hk7 (fun k hf hg => by have h1 := HGB.out k hg; have h2 := (HF6.out k hf).2; omega))
         have HB7 := Lib.hid (Keep.behind HB6.out hk7 HB6.out.size (fun k hlt hg => by have h1 := HGB.out k hg; have h2 := HB3.out.size; omega))
         have HS17 := Lib.hid (HS16.out.keep hk7 (fun k hk hg => by have h1 := HGB.out k hg; have h2 := HO5.out.2 k hk; omega))
         have HS27 := Lib.hid (HS26.out.keep hk7 (fun k hk hg => by have h1 := HGB.out k hg; have h2 := HV26.out k hk; have h3 := HL45.out; omega))
         clear hy7 hg7 hk7 hs7)
      | fail)
    have hl26 : E1.length ≤ 9223372036854775807 := by have := HEB1.out.2; omega
    go_loop [24, 26] (fun x i => ∃ (k : Nat) (A : Int), k ≤ E1.length ∧ i = .int .i64 k ∧ x = .int .i64 (A) ∧ A = sumW (E1.take k) who ∧ 0 ≤ A ∧ A ≤ 1099511627776 * 20) (fun _ i => E1.length - (intOf i).toNat)
    case atStart => exact ⟨0, 0, Nat.zero_le _, rfl, by first | rfl | rw [Int.add_zero], rfl, by omega, by omega⟩
    case round =>
      obtain ⟨k, A, hk, rfl, rfl, hA, hA0, hA1⟩ := hrel
      by_cases hlt : k < E1.length
      · obtain ⟨b', off', he, -, hb', hc'⟩ := HS17.out.at (i := k) (by simpa using hlt)
        cases he
        have e0 : w7.cell? ⟨b', off' + k * 3, none⟩ = some (.string E1[k].1) := hc' k (entRow E1[k]) (by simp [hlt]) 0 _ rfl
        have e2 := hc' k (entRow E1[k]) (by simp [hlt]) 2 _ rfl
        have HNX := Lib.hid (sumW_next hlt who)
        rw [← hA] at HNX
        have HBD := Lib.hid (sumW_bd HEB1.out who (k + 1))
        have hb1 := HEB1.out.1 E1[k] (List.getElem_mem hlt)
        have tr : ((k : Nat) : Int) < (E1.length : Int) := by omega
        generalize E1[k] = y at *
        obtain ⟨yc, ya⟩ := y
        simp only at e0 e2 hb1
        obtain ⟨p1, p2⟩ := hb1
        have s2 := str_beq yc who
        clear hc' hb' hA
        by_cases hq : yc = who
        · rw [decide_eq_true hq] at s2
          have HNX2 : Hid (sumW (E1.take (k + 1)) who = A + ya) := Lib.hid (by rw [HNX.out]; show A + (if yc = who then ya else 0) = _; rw [if_pos hq])
          rw [HNX2.out] at HBD
          clear hq
          go_wp2_with fail
          go_round
          case rel => exact ⟨k + 1, A + ya, by omega, by go_num, by first | go_num | (congr 1; omega), HNX2.out.symm, HBD.out.1, HBD.out.2⟩
          case measure => (simp [intOf]) <;> omega
        · rw [decide_eq_false hq] at s2
          have HNX2 : Hid (sumW (E1.take (k + 1)) who = A) := Lib.hid (by rw [HNX.out]; show A + (if yc = who then ya else 0) = _; rw [if_neg hq, Int.add_zero])
          rw [HNX2.out] at HBD
          clear hq
          go_wp2_with fail
          go_round
          case rel => exact ⟨k + 1, A, by omega, by go_num, rfl, HNX2.out.symm, HBD.out.1, HBD.out.2⟩
          case measure => (simp [intOf]) <;> omega
      · have hA' : H1 = A := by rw [HW1.out, hA, List.take_of_length_le (by omega)]
        subst hA'
        clear hA hA0 hA1 hk
        have h1a : 0 ≤ H1 := HHH.out.2.1
        have h1b : H1 ≤ 1099511627776 * 20 := HHH.out.2.2
        go_wp2_with fail
        have hl27 : E2.length ≤ 9223372036854775807 := by have := HEB2.out.2; omega
        go_loop [24, 27] (fun x i => ∃ (k : Nat) (A : Int), k ≤ E2.length ∧ i = .int .i64 k ∧ x = .int .i64 (H1 + A) ∧ A = sumW (E2.take k) who ∧ 0 ≤ A ∧ A ≤ 1099511627776 * 20) (fun _ i => E2.length - (intOf i).toNat)
        case atStart => exact ⟨0, 0, Nat.zero_le _, rfl, by first | rfl | rw [Int.add_zero], rfl, by omega, by omega⟩
        case round =>
          obtain ⟨k, A, hk, rfl, rfl, hA, hA0, hA1⟩ := hrel
          by_cases hlt : k < E2.length
          · obtain ⟨b', off', he, -, hb', hc'⟩ := HS27.out.at (i := k) (by simpa using hlt)
            cases he
            have e0 : w7.cell? ⟨b', off' + k * 3, none⟩ = some (.string E2[k].1) := hc' k (entRow E2[k]) (by simp [hlt]) 0 _ rfl
            have e2 := hc' k (entRow E2[k]) (by simp [hlt]) 2 _ rfl
            have HNX := Lib.hid (sumW_next hlt who)
            rw [← hA] at HNX
            have HBD := Lib.hid (sumW_bd HEB2.out who (k + 1))
            have hb1 := HEB2.out.1 E2[k] (List.getElem_mem hlt)
            have tr : ((k : Nat) : Int) < (E2.length : Int) := by omega
            generalize E2[k] = y at *
            obtain ⟨yc, ya⟩ := y
            simp only at e0 e2 hb1
            obtain ⟨p1, p2⟩ := hb1
            have s2 := str_beq yc who
            clear hc' hb' hA
            by_cases hq : yc = who
            · rw [decide_eq_true hq] at s2
              have HNX2 : Hid (sumW (E2.take (k + 1)) who = A + ya) := Lib.hid (by rw [HNX.out]; show A + (if yc = who then ya else 0) = _; rw [if_pos hq])
              rw [HNX2.out] at HBD
              clear hq
              go_wp2_with fail
              go_round
              case rel => exact ⟨k + 1, A + ya, by omega, by go_num, by first | go_num | (congr 1; omega), HNX2.out.symm, HBD.out.1, HBD.out.2⟩
              case measure => (simp [intOf]) <;> omega
            · rw [decide_eq_false hq] at s2
              have HNX2 : Hid (sumW (E2.take (k + 1)) who = A) := Lib.hid (by rw [HNX.out]; show A + (if yc = who then ya else 0) = _; rw [if_neg hq, Int.add_zero])
              rw [HNX2.out] at HBD
              clear hq
              go_wp2_with fail
              go_round
              case rel => exact ⟨k + 1, A, by omega, by go_num, rfl, HNX2.out.symm, HBD.out.1, HBD.out.2⟩
              case measure => (simp [intOf]) <;> omega
          · have hA' : H2 = A := by rw [HW2.out, hA, List.take_of_length_le (by omega)]
            subst hA'
            clear hA hA0 hA1 hk
            go_wp2_with fail
            have hl28 : E3.length ≤ 9223372036854775807 := by have := HEB3.out.2; omega
            go_loop [25, 28] (fun x i => ∃ (k : Nat) (A : Int), k ≤ E3.length ∧ i = .int .i64 k ∧ x = .int .i64 (A) ∧ A = sumW (E3.take k) who ∧ 0 ≤ A ∧ A ≤ 1099511627776 * 20) (fun _ i => E3.length - (intOf i).toNat)
            case atStart => exact ⟨0, 0, Nat.zero_le _, rfl, by first | rfl | rw [Int.add_zero], rfl, by omega, by omega⟩
            case round =>
              obtain ⟨k, A, hk, rfl, rfl, hA, hA0, hA1⟩ := hrel
              by_cases hlt : k < E3.length
              · obtain ⟨b', off', he, -, hb', hc'⟩ := HS7.out.at (i := k) (by simpa using hlt)
                cases he
                have e0 : w7.cell? ⟨b', off' + k * 3, none⟩ = some (.string E3[k].1) := hc' k (entRow E3[k]) (by simp [hlt]) 0 _ rfl
                have e2 := hc' k (entRow E3[k]) (by simp [hlt]) 2 _ rfl
                have HNX := Lib.hid (sumW_next hlt who)
                rw [← hA] at HNX
                have HBD := Lib.hid (sumW_bd HEB3.out who (k + 1))
                have hb1 := HEB3.out.1 E3[k] (List.getElem_mem hlt)
                have tr : ((k : Nat) : Int) < (E3.length : Int) := by omega
                generalize E3[k] = y at *
                obtain ⟨yc, ya⟩ := y
                simp only at e0 e2 hb1
                obtain ⟨p1, p2⟩ := hb1
                have s2 := str_beq yc who
                clear hc' hb' hA
                by_cases hq : yc = who
                · rw [decide_eq_true hq] at s2
                  have HNX2 : Hid (sumW (E3.take (k + 1)) who = A + ya) := Lib.hid (by rw [HNX.out]; show A + (if yc = who then ya else 0) = _; rw [if_pos hq])
                  rw [HNX2.out] at HBD
                  clear hq
                  go_wp2_with fail
                  go_round
                  case rel => exact ⟨k + 1, A + ya, by omega, by go_num, by first | go_num | (congr 1; omega), HNX2.out.symm, HBD.out.1, HBD.out.2⟩
                  case measure => (simp [intOf]) <;> omega
                · rw [decide_eq_false hq] at s2
                  have HNX2 : Hid (sumW (E3.take (k + 1)) who = A) := Lib.hid (by rw [HNX.out]; show A + (if yc = who then ya else 0) = _; rw [if_neg hq, Int.add_zero])
                  rw [HNX2.out] at HBD
                  clear hq
                  go_wp2_with fail
                  go_round
                  case rel => exact ⟨k + 1, A, by omega, by go_num, rfl, HNX2.out.symm, HBD.out.1, HBD.out.2⟩
                  case measure => (simp [intOf]) <;> omega
              · have hA' : M3 = A := by rw [HW3.out, hA, List.take_of_length_le (by omega)]
                subst hA'
                clear hA hA0 hA1 hk
                have HRA := Lib.hid (rankX_any HX7.out t HLK2.out.2)
                rw [HRX.out] at HRA
                obtain ⟨h1, s0, s1, s2, s3⟩ := HSS.out
                have g2 : (S1 + S2 == S3) = true := by simp [h1]
                have g3 : (H1 + H2 == M3) = true := by have := HHH.out.1; simp; omega
                clear h1
                go_wp2_with (first
                  | ((with_reducible refine HRA.out.mono ?_); rintro e w8 ⟨v8, rfl, hown8, hb8⟩
                     have HS8 := Lib.hid (own_pgs hown8 rfl); have HY8 := Lib.hid (HY7.out.below hb8); have HB8 := Lib.hid (HB7.out.trans (hb8.mono HB7.out.size))
                     have HRB := Lib.hid (rankX_any HY8.out t HLKY.out.2); rw [HRY.out] at HRB; clear hown8 hb8)
                  | ((with_reducible refine HRB.out.mono ?_); rintro e w9 ⟨v9, rfl, hown9, hb9⟩
                     have HB9 := Lib.hid (HB8.out.trans (hb9.mono HB8.out.size))
                     have HSM := Lib.hid (refSameP_any Z Z _ _ w9 (HS8.out.below hb9 (Nat.le_refl _)) (own_pgs hown9 rfl)); rw [decide_eq_true (rfl : Z = Z)] at HSM; clear hown9 hb9)
                  | ((with_reducible refine HSM.out.mono ?_); rintro e w10 ⟨rfl, hb10⟩; have HB10 := Lib.hid (HB9.out.trans (hb10.mono HB9.out.size)); clear hb10)
                  | fail)
                go_ret
                exact ⟨rfl, HB10.out⟩
theorem lifted (os : Os) (started : os.Started) (H : Type) (enc : TypeId × Value → H) :
    ReturnsInHanded {} Try.checked os 6 .any (Rows.lienTwiceSpec.pre6 enc Try.prog Try.f6 Rows.lienTwiceRow.domain false) (Rows.lienTwiceSpec.post enc Try.prog Try.f6 false true false false) := by
  refine law_lifted os started (by kernel_rfl) Try.func6
    (ChangeSpec.witness6 (enc := enc) (C := Try.checked) false ⟨#[], #[.slice none 0 0, .string ⟨#[]⟩, .int .i64 0, .int .i64 0, .string ⟨#[]⟩], []⟩ 8 (by kernel_rfl) (by kernel_rfl) (by kernel_rfl) (by kernel_rfl))
    (by kernel_rfl) rfl rfl ?_ ?_
  · intro vs ds W p hA
    rw [Try.params6] at hA
    obtain ⟨v0, vs0, d0, ds0, p0, q0, rfl, rfl, rfl, h0, r0⟩ := trodAll_cons hA
    obtain ⟨v1, vs1, d1, ds1, p1, q1, rfl, rfl, rfl, h1, r1⟩ := trodAll_cons r0
    obtain ⟨v2, vs2, d2, ds2, p2, q2, rfl, rfl, rfl, h2, r2⟩ := trodAll_cons r1
    obtain ⟨v3, vs3, d3, ds3, p3, q3, rfl, rfl, rfl, h3, r3⟩ := trodAll_cons r2
    obtain ⟨v4, vs4, d4, ds4, p4, q4, rfl, rfl, rfl, h4, r4⟩ := trodAll_cons r3
    obtain ⟨rfl, rfl, rfl⟩ := trodAll_nil r4
    rfl
  · intro W base args ds p hval hA
    rw [Try.params6] at hA hval
    obtain ⟨v0, vs0, d0, ds0, p0, q0, hargs, rfl, rfl, h0, r0⟩ := trodAll_cons hA
    obtain ⟨v1, vs1, d1, ds1, p1, q1, rfl, rfl, rfl, h1, r1⟩ := trodAll_cons r0
    obtain ⟨v2, vs2, d2, ds2, p2, q2, rfl, rfl, rfl, h2, r2⟩ := trodAll_cons r1
    obtain ⟨v3, vs3, d3, ds3, p3, q3, rfl, rfl, rfl, h3, r3⟩ := trodAll_cons r2
    obtain ⟨v4, vs4, d4, ds4, p4, q4, rfl, rfl, rfl, h4, r4⟩ := trodAll_cons r3
    obtain ⟨rfl, rfl, rfl⟩ := trodAll_nil r4
    obtain rfl : args = #[v0, v1, v2, v3, v4] := by cases args; simp_all
    obtain ⟨l0, hs0, hf0⟩ := open_deeds (hval 0 22 v0 rfl rfl) h0
    obtain ⟨a1, rfl, rfl, rfl, w1⟩ := Go.ChangeMaps.open_string Try.underlying9 (hval 1 9 v1 rfl rfl) h1
    obtain ⟨a2, rfl, rfl, rfl, w2⟩ := open_int Try.underlying2 (hval 2 2 v2 rfl rfl) h2
    obtain ⟨a3, rfl, rfl, rfl, w3⟩ := open_int Try.underlying2 (hval 3 2 v3 rfl rfl) h3
    obtain ⟨a4, rfl, rfl, rfl, w4⟩ := Go.ChangeMaps.open_string Try.underlying9 (hval 4 9 v4 rfl rfl) h4
    exact walk W l0 v0 hs0 hf0 a1 w1 a2 w2 a3 w3 a4 w4

theorem over : Rows.lienTwiceRow.holds Try.pinned (OpenSpec.ofChange Rows.lienTwiceSpec) :=
  OpenClaim.holds_of_wide 6 Try.f6 rfl rfl rfl rfl rfl rfl rfl ⟨rfl, rfl, rfl, rfl, rfl⟩ rfl rfl rfl rfl rfl (by kernel_rfl) Try.func6 (by kernel_rfl)
    (of_decide_eq_true (by kernel_rfl)) (by unfold Func.isWrapper; rw [if_neg (by decide +kernel)]; exact ⟨rfl, rfl⟩)
    (fun os started H enc _ => lifted os started H enc)

/-- The statement. -/
theorem proved : Rows.LienTwiceSaid := over
#print axioms proved
end Go.Proofs.Ytnlfhncbnfmccaa.lienTwice
