/- Down the rank. -/
import Derived.Test.YtnlfhncbnfmccaaLawPl26
import Derived.Test.YtnlfhncbnfmccaaTerms26
import Derived.Test.YtnlfhncbnfmccaaAwake26
namespace Go.Proofs.Ytnlfhncbnfmccaa.lienPays
open Go.ChangeShapes Go.WideShapes Go.ChangeAt Go.RowKit Go Sc Go.BigFrame
set_option maxRecDepth 100000

theorem sums_next {e : List (ByteArray × Int)} {k : Nat} (h : k < e.length) : sums (e.take (k + 1)) = sums (e.take k) + e[k].2 := by
  rw [sums, sums, List.take_succ_eq_append_getElem h, List.map_append, List.sum_append]; simp
theorem amts_next {r : List Pg} {k : Nat} (h : k < r.length) : amts (r.take (k + 1)) = amts (r.take k) + r[k].amt := by
  rw [amts, amts, List.take_succ_eq_append_getElem h, List.map_append, List.sum_append]; simp
theorem sums_bd : ∀ (e : List (ByteArray × Int)), (∀ q ∈ e, 0 ≤ q.2 ∧ q.2 ≤ 1099511627776) → 0 ≤ sums e ∧ sums e ≤ 1099511627776 * (e.length : Int)
  | [], _ => by simp [sums]
  | p :: r, h => by
    have h1 := h p List.mem_cons_self
    have h2 := sums_bd r fun q hq => h q (List.mem_cons_of_mem _ hq)
    rw [sums_cons, List.length_cons]
    omega
theorem amts_bd : ∀ (e : List Pg), (∀ q ∈ e, 1 ≤ q.amt ∧ q.amt ≤ 1099511627776) → 0 ≤ amts e ∧ amts e ≤ 1099511627776 * (e.length : Int)
  | [], _ => by simp [amts]
  | p :: r, h => by
    have h1 := h p List.mem_cons_self
    have h2 := amts_bd r fun q hq => h q (List.mem_cons_of_mem _ hq)
    rw [amts_cons, List.length_cons]
    omega
set_option maxHeartbeats 16000000 in
theorem walk (w : World) (l : List Dd) (vl : Value) (hsl : Sl w 8 vl (l.map Dd.row)) (_ : ∀ d ∈ l, d.fit) (t : ByteArray) (_ : t.size ≤ maxLen) (s : Int) (_ : (Lit.int .i64 s).wf = true) :
    Calls Try.prog 3 #[vl, .string t, .int .i64 s] w (RetB w true) := by
  have HAW := Lib.hid (awake_any w)
  have HHV := Lib.hid (fun W (hW : Below w.heap.size w W) => heavyD_any l 20 vl W (hsl.below hW (Nat.le_refl _)))
  have HSL := Lib.hid hsl
  obtain ⟨L, hL⟩ : ∃ L, L = deeds l := ⟨_, rfl⟩
  have HLL := Lib.hid hL
  clear hsl hL
  go_enter Try.func3, Try.ntmps3
  go_wp2_with (first
    | ((with_reducible refine HAW.out.mono ?_); rintro e w1 ⟨rfl, hb1⟩; have HB := Lib.hid hb1; clear hb1)
    | fail)
  refine (HHV.out _ HB.out).mono ?_
  rintro e w2 ⟨rfl, hb2⟩
  have HB2 := Lib.hid (HB.out.trans (hb2.mono HB.out.size))
  clear hb2
  generalize hq : heavyD l 20 = q
  cases q with
  | true =>
    clear hq
    go_wp2_with fail
    go_ret
    exact ⟨rfl, HB2.out⟩
  | false =>
  have HNO := Lib.hid (heavyD_no hq)
  clear hq
  by_cases c0 : 100 < t.size
  · skip
    go_wp2_with fail
    go_ret
    exact ⟨rfl, HB2.out⟩
  skip
  have HC0 := Lib.hid c0
  by_cases c1 : s < 0
  · have t1 : decide (s < 0) = true := decide_eq_true c1
    go_wp2_with fail
    go_ret
    exact ⟨rfl, HB2.out⟩
  have t1 : decide (s < 0) = false := decide_eq_false c1
  have HC1 := Lib.hid c1
  by_cases c2 : 1099511627776 < s
  · have t2 : decide (1099511627776 < s) = true := decide_eq_true c2
    go_wp2_with fail
    go_ret
    exact ⟨rfl, HB2.out⟩
  have t2 : decide (1099511627776 < s) = false := decide_eq_false c2
  have HC2 := Lib.hid c2
  have HLK : Hid (LnOk L ∧ L.length ≤ 20) := Lib.hid (by
    have h1 := HNO.out.1
    have h2 := deeds_len l
    rw [HLL.out]
    exact ⟨deeds_ok l, by omega⟩)
  have HGR := Lib.hid (grown_any l vl w2 (HSL.out.below HB2.out (Nat.le_refl _)) (by have := HNO.out.1; omega) HNO.out.2)
  unfold GrownP at HGR
  rw [← HLL.out] at HGR
  have HBS : Hid (badS s = false) := Lib.hid (by rw [badS, t1, t2]; rfl)
  have HSS : Hid (0 ≤ s ∧ s ≤ 1099511627776) := Lib.hid (by omega)
  clear HC0 HC1 HC2
  by_cases hn : ofT L t = []
  · have HN := Lib.hid hn
    have tn : (rankOf (ofT L t)).length = 0 := rank_none.2 hn
    clear hn
    go_wp2_with (first
      | ((with_reducible refine HGR.out.mono ?_); rintro e w3 ⟨F, bk, bm, vm, rfl, hx3, hs3, ho3, hF3, hb3⟩; have H3 := Lib.hid (And.intro hs3 (And.intro ho3 hF3)); have HX3 := Lib.hid hx3; have HB3 := Lib.hid (HB2.out.trans (hb3.mono HB2.out.size)); clear hs3 ho3 hF3 hb3 hx3
         have HRK := Lib.hid (rankX_any HX3.out t HLK.out.2))
      | ((with_reducible refine HRK.out.mono ?_); rintro e w4 ⟨vr, rfl, hown4, hb4⟩
         obtain ⟨ar, cr, rfl⟩ : ∃ a c, vr = .slice a (rankOf (ofT L t)).length c := by simpa using (own_pgs hown4 rfl).shape
         have HB4 := Lib.hid (HB3.out.trans (hb4.mono HB3.out.size)); have HPN := Lib.hid (payNone_any (HX3.out.below hb4) t s HBS.out HN.out); rw [tn]; clear hown4 hb4)
      | ((with_reducible refine HPN.out.mono ?_); rintro e w5 ⟨rfl, hb5⟩; have HB5 := Lib.hid (HB4.out.trans (hb5.mono HB4.out.size)); clear hb5)
      | fail)
    go_ret
    exact ⟨rfl, HB5.out⟩
  have HN := Lib.hid hn
  obtain ⟨r, hr⟩ : ∃ r, r = rankOf (ofT L t) := ⟨_, rfl⟩
  have HRR := Lib.hid hr
  have h0 : ¬ r.length = 0 := by rw [hr]; exact fun h => hn (rank_none.1 h)
  have q1 : ((r.length : Int) == 0) = false := by simp only [beq_eq_false_iff_ne, ne_eq]; omega
  have q2 : (r.length == 0) = false := by simp only [beq_eq_false_iff_ne, ne_eq]; omega
  have HRL : Hid (r.length ≤ 20) := Lib.hid (by rw [hr, rank_len]; exact Nat.le_trans (ofT_le L t) HLK.out.2)
  have HTP : Hid (∀ x ∈ r, 1 ≤ x.amt ∧ x.amt ≤ 1099511627776) := Lib.hid (by rw [hr]; exact rank_top HLK.out.1 t)
  have HAO : Hid (AmtOk r) := Lib.hid fun x hx => (HTP.out x hx).1
  obtain ⟨E, hE⟩ : ∃ E, E = payE r s := ⟨_, rfl⟩
  obtain ⟨S, hS⟩ : ∃ S, S = payS r s := ⟨_, rfl⟩
  have HPO : Hid (PayOk r E) := Lib.hid (by rw [hE]; exact payE_ok HAO.out HSS.out.1)
  have HSR : Hid (0 ≤ S ∧ S ≤ s) := Lib.hid (by rw [hS]; exact payS_range HSS.out.1 HAO.out)
  have HSM : Hid (sums E = s - S) := Lib.hid (by rw [hE, hS]; exact sums_payE r s)
  have HEB : Hid (∀ q ∈ E, 0 ≤ q.2 ∧ q.2 ≤ 1099511627776) := Lib.hid (fun q hq => by
    obtain ⟨i, hi, rfl⟩ := List.getElem_of_mem hq
    have hi' : i < r.length := Nat.lt_of_lt_of_le hi HPO.out.1
    have h1 := HPO.out.2 i hi hi'
    have h2 := HTP.out r[i] (List.getElem_mem hi')
    omega)
  obtain ⟨L2, hL2⟩ : ∃ L2, L2 = paidL L t E := ⟨_, rfl⟩
  have HLK2 : Hid (LnOk L2 ∧ L2.length ≤ 20) := Lib.hid (by
    rw [hL2]
    refine ⟨paid_ok HLK.out.1 t (by rw [hE, hr]; exact got_ok HLK.out.1 t HSS.out.1), Nat.le_trans (paidL_len _ _ _) HLK.out.2⟩)
  obtain ⟨r2, hr2⟩ : ∃ r2, r2 = rankOf (ofT L2 t) := ⟨_, rfl⟩
  have HR2 : Hid (r2 = restR r s) := Lib.hid (by rw [hr2, hL2, hE, hr]; exact rank_paid HLK.out.1 t HSS.out.1)
  have HTP2 : Hid (∀ x ∈ r2, 1 ≤ x.amt ∧ x.amt ≤ 1099511627776) := Lib.hid (by rw [hr2]; exact rank_top HLK2.out.1 t)
  have HRL2 : Hid (r2.length ≤ 20) := Lib.hid (by rw [hr2, rank_len]; exact Nat.le_trans (ofT_le L2 t) HLK2.out.2)
  have HAM : Hid (amts r2 = amts r - (s - S)) := Lib.hid (by rw [HR2.out, hS]; exact amts_restR r s)
  have HNO2 : Hid (S ≠ 0 → r2.length = 0) := Lib.hid (fun h => by rw [HR2.out, restR_none HAO.out HSS.out.1 (by rw [← hS]; exact h)]; rfl)
  have HRR2 := Lib.hid hr2
  have HES := Lib.hid (And.intro hE (And.intro hS hL2))
  clear hn hr h0 hE hS hL2 hr2
  go_wp2_with (first
    | ((with_reducible refine HGR.out.mono ?_); rintro e w3 ⟨F, bk, bm, vm, rfl, hx3, hs3, ho3, hF3, hb3⟩; have H3 := Lib.hid (And.intro hs3 (And.intro ho3 hF3)); have HX3 := Lib.hid hx3; have HB3 := Lib.hid (HB2.out.trans (hb3.mono HB2.out.size)); clear hs3 ho3 hF3 hb3 hx3
       have HRK := Lib.hid (rankX_any HX3.out t HLK.out.2); rw [← HRR.out] at HRK)
    | ((with_reducible refine HRK.out.mono ?_); rintro e w4 ⟨vr, rfl, hown4, hb4⟩
       obtain ⟨ar, cr, rfl⟩ : ∃ a c, vr = .slice a r.length c := by simpa using (own_pgs hown4 rfl).shape
       have HS4 := Lib.hid (own_pgs hown4 rfl); have HOF4 : Hid (Off F (.slice ar r.length cr) ∨ r = []) := Lib.hid (.inl fun b hb hx => by have h1 := (hown4.lt b hb).1; have h2 := HX3.out.lt b hx; omega)
       have HB4 := Lib.hid (HB3.out.trans (hb4.mono HB3.out.size)); have HPA := Lib.hid (payX_any (HX3.out.below hb4) HLK.out.1 t s HBS.out HLK.out.2 HN.out)
       unfold PayXP at HPA
       rw [← HRR.out, ← HES.out.1, ← HES.out.2.1, ← HES.out.2.2] at HPA; clear hown4 hb4)
    | ((with_reducible refine HPA.out.mono ?_); rintro e w5 ⟨F5, vx, rfl, hx5, hf5, hk5, hsx⟩
       obtain ⟨ax, cx, rfl⟩ : ∃ a c, vx = .slice a E.length c := by simpa using hsx.shape
       have HX5 := Lib.hid hx5; have HS5 := Lib.hid (sl_keepP HS4.out hk5 HOF4.out); have HSX := Lib.hid hsx
       have HB5 := Lib.hid (Keep.behind HB4.out hk5 HB4.out.size (fun j hj h => absurd (H3.out.2.2 j h) (by have := HB2.out.size; omega))); clear hx5 hf5 hk5 hsx)
    | fail)
  have hrl : r.length ≤ 9223372036854775807 := by have := HRL.out; omega
  have hel : E.length ≤ 9223372036854775807 := by have := HRL.out; have := HPO.out.1; omega
  clear q1 q2 t1 t2
  go_loopw [14, 16] (fun a i wr => ∃ (k : Nat) (A : Int), k ≤ E.length ∧ i = .int .i64 k ∧ a = .int .i64 (S + A) ∧ A = sums (E.take k) ∧ 0 ≤ A ∧ A ≤ 1099511627776 * 20 ∧ Below w5.heap.size w5 wr) (fun _ i _ => E.length - (intOf i).toNat)
  case atStart => exact ⟨0, 0, Nat.zero_le _, rfl, by rw [Int.add_zero], rfl, by omega, by omega, Below.refl _ _⟩
  case round =>
    obtain ⟨k, A, hk, rfl, rfl, hA, hA0, hA1, hbel⟩ := hrel
    have HBEL := Lib.hid hbel
    have HA := Lib.hid hA
    have hSb : 0 ≤ S ∧ S ≤ 1099511627776 := by have := HSR.out; have := HSS.out; omega
    by_cases hlt : k < E.length
    · have hlr : k < r.length := Nat.lt_of_lt_of_le hlt HPO.out.1
      obtain ⟨b, off, he, hb, hp⟩ := pg_at HS5.out hlr
      cases he
      obtain ⟨d0, d1, d2, d3, d4, d5⟩ := hp.below hb hbel
      obtain ⟨b', off', he, -, hb', hc'⟩ := HSX.out.at (i := k) (by simpa using hlt)
      cases he
      have e0 := (hbel.cell (p := ⟨b', off' + k * 3, none⟩) hb').trans (hc' k (entRow E[k]) (by simp [hlt]) 0 _ rfl)
      have e1 := (hbel.cell (p := ⟨b', off' + k * 3 + 1, none⟩) hb').trans (hc' k (entRow E[k]) (by simp [hlt]) 1 _ rfl)
      have e2 := (hbel.cell (p := ⟨b', off' + k * 3 + 2, none⟩) hb').trans (hc' k (entRow E[k]) (by simp [hlt]) 2 _ rfl)
      have hpo := HPO.out.2 k hlt hlr
      have HNX : Hid (sums (E.take (k + 1)) = A + E[k].2 ∧ A + E[k].2 ≤ 1099511627776 * 20) := Lib.hid (by
        have h1 := sums_next hlt
        have h2 := sums_bd (E.take (k + 1)) (fun q hq => HEB.out q (List.mem_of_mem_take hq))
        have h3 := List.length_take_le (k + 1) E
        have h4 := HPO.out.1
        have h5 := HRL.out
        have h6 : ((E.take (k + 1)).length : Int) ≤ 20 := by omega
        omega)
      have HTK := Lib.hid (HTP.out r[k] (List.getElem_mem hlr))
      have tr : ((k : Nat) : Int) < (r.length : Int) := by omega
      have te : ((k : Nat) : Int) < (E.length : Int) := by omega
      have HKE := Lib.hid (show k + 1 ≤ E.length from hlt)
      rw [hpo.1] at e0
      generalize r[k] = x at *
      obtain ⟨xt, xd, xc, xy, xa, xh⟩ := x
      generalize E[k] = y at *
      obtain ⟨yc, ya⟩ := y
      simp only at d0 d1 d2 d3 d4 d5 e0 e1 e2 hpo
      obtain ⟨-, p1, p2, p3⟩ := hpo
      have HP := Lib.hid (And.intro p1 p2)
      have HXA : xa ≤ 1099511627776 := HTK.out.2
      have f1 : decide ((r.length : Int) ≤ (k : Int)) = false := decide_eq_false (by omega)
      have f1' : decide (r.length ≤ k) = false := decide_eq_false (by omega)
      have f2 : decide (ya < 1) = false := decide_eq_false (by omega)
      have f3 : decide (xa < ya) = false := decide_eq_false (by omega)
      have f4 : (xc.toList == xc.toList) = true := by simp
      clear hp hc' hbel hb hb' HTK hlr hA
      by_cases hlast : k + 1 < E.length
      · obtain rfl := p3 hlast
        have f5 : decide ((k : Int) < (E.length : Int) - 1) = true := decide_eq_true (by omega)
        have f6 : (ya == ya) = true := by simp
        clear hlast p3
        go_wp2_with fail
        go_quiet (fail)
        go_wp2_with fail
        go_roundw
        case rel => exact ⟨k + 1, A + ya, by have := HKE.out; omega, by go_num, by first | go_num | (congr 1; omega), HNX.out.1.symm, by have := HP.out.1; omega, HNX.out.2, below_drewN HBEL.out _⟩
        case measure => (simp [intOf]) <;> omega
      · have f5 : decide ((k : Int) < (E.length : Int) - 1) = false := decide_eq_false (by omega)
        clear hlast p3
        go_wp2_with fail
        go_quiet (fail)
        go_wp2_with fail
        go_roundw
        case rel => exact ⟨k + 1, A + ya, by have := HKE.out; omega, by go_num, by first | go_num | (congr 1; omega), HNX.out.1.symm, by have := HP.out.1; omega, HNX.out.2, below_drewN HBEL.out _⟩
        case measure => (simp [intOf]) <;> omega
    · have hA' : A = s - S := by rw [hA, List.take_of_length_le (by omega)]; exact HSM.out
      subst hA'
      clear hA hA0 hA1 hk
      go_wp2_with fail
      go_loopw [15, 17] (fun a i wr => ∃ (k : Nat) (A : Int), k ≤ r.length ∧ i = .int .i64 k ∧ a = .int .i64 A ∧ A = amts (r.take k) ∧ 0 ≤ A ∧ A ≤ 1099511627776 * 20 ∧ Below w5.heap.size w5 wr) (fun _ i _ => r.length - (intOf i).toNat)
      case atStart => exact ⟨0, 0, Nat.zero_le _, rfl, rfl, rfl, by omega, by omega, HBEL.out⟩
      case round =>
        obtain ⟨k, A, hk, rfl, rfl, hA, hA0, hA1, hbel⟩ := hrel
        have HBEL := Lib.hid hbel
        have HA := Lib.hid hA
        by_cases hlt : k < r.length
        · obtain ⟨b, off, he, hb, hp⟩ := pg_at HS5.out hlt
          cases he
          obtain ⟨d0, d1, d2, d3, d4, d5⟩ := hp.below hb hbel
          have HNX : Hid (amts (r.take (k + 1)) = A + r[k].amt ∧ 0 ≤ A + r[k].amt ∧ A + r[k].amt ≤ 1099511627776 * 20) := Lib.hid (by
            have h1 := amts_next hlt
            have h2 := amts_bd (r.take (k + 1)) (fun q hq => HTP.out q (List.mem_of_mem_take hq))
            have h3 := List.length_take_le (k + 1) r
            have h5 := HRL.out
            have h6 : ((r.take (k + 1)).length : Int) ≤ 20 := by omega
            omega)
          have HTK := HTP.out r[k] (List.getElem_mem hlt)
          have tr : ((k : Nat) : Int) < (r.length : Int) := by omega
          generalize r[k] = x at *
          obtain ⟨xt, xd, xc, xy, xa, xh⟩ := x
          simp only at d0 d1 d2 d3 d4 d5 HTK
          obtain ⟨p1, p2⟩ := HTK
          clear hp hbel hb hA
          go_wp2_with fail
          go_roundw
          case rel => exact ⟨k + 1, A + xa, by omega, by go_num, by go_num, HNX.out.1.symm, HNX.out.2.1, HNX.out.2.2, HBEL.out⟩
          case measure => (simp [intOf]) <;> omega
        · have HAA : Hid (A = amts r) := Lib.hid (by rw [hA, List.take_of_length_le (by omega)])
          have HRK2 := Lib.hid (rankX_any (HX5.out.below hbel) t HLK2.out.2)
          rw [← HRR2.out] at HRK2
          clear hA hk hbel
          go_wp2_with (first
            | ((with_reducible refine HRK2.out.mono ?_); rintro e w6 ⟨v6, rfl, hown6, hb6⟩
               obtain ⟨a6, c6, rfl⟩ : ∃ a c, v6 = .slice a r2.length c := by simpa using (own_pgs hown6 rfl).shape
               have HS6 := Lib.hid (own_pgs hown6 rfl); have HB6 := Lib.hid (HB5.out.trans ((HBEL.out.trans (hb6.mono HBEL.out.size)).mono HB5.out.size)); clear hown6 hb6)
            | fail)
          have hrl2 : r2.length ≤ 9223372036854775807 := by have := HRL2.out; omega
          go_loopw [15, 19] (fun a i wr => ∃ (k : Nat) (B : Int), k ≤ r2.length ∧ i = .int .i64 k ∧ a = .int .i64 (A - B) ∧ B = amts (r2.take k) ∧ 0 ≤ B ∧ B ≤ 1099511627776 * 20 ∧ Below w6.heap.size w6 wr) (fun _ i _ => r2.length - (intOf i).toNat)
          case atStart => exact ⟨0, 0, Nat.zero_le _, rfl, by rw [Int.sub_zero], rfl, by omega, by omega, Below.refl _ _⟩
          case round =>
            obtain ⟨k, B, hk, rfl, rfl, hA, hB0, hB1, hbel⟩ := hrel
            have HBEL6 := Lib.hid hbel
            by_cases hlt : k < r2.length
            · obtain ⟨b, off, he, hb, hp⟩ := pg_at HS6.out hlt
              cases he
              obtain ⟨d0, d1, d2, d3, d4, d5⟩ := hp.below hb hbel
              have HNX : Hid (amts (r2.take (k + 1)) = B + r2[k].amt ∧ 0 ≤ B + r2[k].amt ∧ B + r2[k].amt ≤ 1099511627776 * 20) := Lib.hid (by
                have h1 := amts_next hlt
                have h2 := amts_bd (r2.take (k + 1)) (fun q hq => HTP2.out q (List.mem_of_mem_take hq))
                have h3 := List.length_take_le (k + 1) r2
                have h5 := HRL2.out
                have h6 : ((r2.take (k + 1)).length : Int) ≤ 20 := by omega
                omega)
              have HTK := HTP2.out r2[k] (List.getElem_mem hlt)
              have tr : ((k : Nat) : Int) < (r2.length : Int) := by omega
              generalize r2[k] = x at *
              obtain ⟨xt, xd, xc, xy, xa, xh⟩ := x
              simp only at d0 d1 d2 d3 d4 d5 HTK
              obtain ⟨p1, p2⟩ := HTK
              clear hp hbel hb hA
              go_wp2_with fail
              go_roundw
              case rel => exact ⟨k + 1, B + xa, by omega, by go_num, by first | go_num | (congr 1; omega), HNX.out.1.symm, HNX.out.2.1, HNX.out.2.2, HBEL6.out⟩
              case measure => (simp [intOf]) <;> omega
            · have hAB : A - B = s - S := by
                have h1 := HAM.out
                have h2 := HAA.out
                rw [List.take_of_length_le (by omega)] at hA
                omega
              rw [hAB]
              have HFB := Lib.hid (HB6.out.trans (hbel.mono HB6.out.size))
              have hss := HSS.out
              have hsr := HSR.out
              have g1 : decide (0 ≤ S) = true := decide_eq_true (by omega)
              have g2 : S + (s - S) = s := by omega
              have g4 : ((s - S) == (s - S)) = true := by simp
              clear hA hB0 hB1 hbel hk hAB hA0 hA1
              by_cases hz : S = 0
              · have g3 : (S == 0) = true := by simp [hz]
                clear hz
                go_wp2_with fail
                go_ret
                exact ⟨rfl, HFB.out⟩
              · have g3 : (S == 0) = false := by simp [hz]
                have g5 := HNO2.out hz
                rw [g5]
                clear hz g5
                go_wp2_with fail
                go_ret
                exact ⟨rfl, HFB.out⟩
theorem lifted (os : Os) (started : os.Started) (H : Type) (enc : TypeId × Value → H) :
    ReturnsInHanded {} Try.checked os 3 .any (Rows.lienPaysSpec.pre6 enc Try.prog Try.f3 Rows.lienPaysRow.domain false) (Rows.lienPaysSpec.post enc Try.prog Try.f3 false true false false) := by
  refine law_lifted os started (by kernel_rfl) Try.func3
    (ChangeSpec.witness6 (enc := enc) (C := Try.checked) false ⟨#[], #[.slice none 0 0, .string ⟨#[]⟩, .int .i64 0], []⟩ 8 (by kernel_rfl) (by kernel_rfl) (by kernel_rfl) (by kernel_rfl))
    (by kernel_rfl) rfl rfl ?_ ?_
  · intro vs ds W p hA
    rw [Try.params3] at hA
    obtain ⟨v0, vs0, d0, ds0, p0, q0, rfl, rfl, rfl, h0, r0⟩ := trodAll_cons hA
    obtain ⟨v1, vs1, d1, ds1, p1, q1, rfl, rfl, rfl, h1, r1⟩ := trodAll_cons r0
    obtain ⟨v2, vs2, d2, ds2, p2, q2, rfl, rfl, rfl, h2, r2⟩ := trodAll_cons r1
    obtain ⟨rfl, rfl, rfl⟩ := trodAll_nil r2
    rfl
  · intro W base args ds p hval hA
    rw [Try.params3] at hA hval
    obtain ⟨v0, vs0, d0, ds0, p0, q0, hargs, rfl, rfl, h0, r0⟩ := trodAll_cons hA
    obtain ⟨v1, vs1, d1, ds1, p1, q1, rfl, rfl, rfl, h1, r1⟩ := trodAll_cons r0
    obtain ⟨v2, vs2, d2, ds2, p2, q2, rfl, rfl, rfl, h2, r2⟩ := trodAll_cons r1
    obtain ⟨rfl, rfl, rfl⟩ := trodAll_nil r2
    obtain rfl : args = #[v0, v1, v2] := by cases args; simp_all
    obtain ⟨l0, hs0, hf0⟩ := open_deeds (hval 0 22 v0 rfl rfl) h0
    obtain ⟨a1, rfl, rfl, rfl, w1⟩ := Go.ChangeMaps.open_string Try.underlying9 (hval 1 9 v1 rfl rfl) h1
    obtain ⟨a2, rfl, rfl, rfl, w2⟩ := open_int Try.underlying2 (hval 2 2 v2 rfl rfl) h2
    exact walk W l0 v0 hs0 hf0 a1 w1 a2 w2

theorem over : Rows.lienPaysRow.holds Try.pinned (OpenSpec.ofChange Rows.lienPaysSpec) :=
  OpenClaim.holds_of_wide 3 Try.f3 rfl rfl rfl rfl rfl rfl rfl ⟨rfl, rfl, rfl, rfl, rfl⟩ rfl rfl rfl rfl rfl (by kernel_rfl) Try.func3 (by kernel_rfl)
    (of_decide_eq_true (by kernel_rfl)) (by unfold Func.isWrapper; rw [if_neg (by decide +kernel)]; exact ⟨rfl, rfl⟩)
    (fun os started H enc _ => lifted os started H enc)

/-- The statement. -/
theorem proved : Rows.LienPaysSaid := over
#print axioms proved
end Go.Proofs.Ytnlfhncbnfmccaa.lienPays
