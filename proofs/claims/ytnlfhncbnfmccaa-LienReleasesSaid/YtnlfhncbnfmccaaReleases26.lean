/- Who lets it go. -/
import Derived.Test.YtnlfhncbnfmccaaLawPl26
import Derived.Test.YtnlfhncbnfmccaaTerms26
import Derived.Test.YtnlfhncbnfmccaaAwake26
namespace Go.Proofs.Ytnlfhncbnfmccaa.lienReleases
open Go.ChangeShapes Go.WideShapes Go.ChangeAt Go.RowKit Go Sc
set_option maxRecDepth 100000

set_option maxHeartbeats 16000000 in
theorem walk (w : World) (l : List Dd) (vl : Value) (hsl : Sl w 8 vl (l.map Dd.row)) (_ : ∀ d ∈ l, d.fit) (t : ByteArray) (_ : t.size ≤ maxLen) (c : ByteArray) (_ : c.size ≤ maxLen) :
    Calls Try.prog 5 #[vl, .string t, .string c] w (RetB w true) := by
  have HAW := Lib.hid (awake_any w)
  have HHV := Lib.hid (fun W (hW : Below w.heap.size w W) => heavyD_any l 20 vl W (hsl.below hW (Nat.le_refl _)))
  have HSL := Lib.hid hsl
  obtain ⟨L, hL⟩ : ∃ L, L = deeds l := ⟨_, rfl⟩
  have HLL := Lib.hid hL
  clear hsl hL
  go_enter Try.func5, Try.ntmps5
  go_wp2_with (first
    | ((with_reducible refine HAW.out.mono ?_); rintro e w1 ⟨rfl, hb1⟩; have HB := Lib.hid hb1; clear hb1)
    | fail)
  refine (HHV.out _ HB.out).mono ?_
  rintro e w2 ⟨rfl, hb2⟩
  have HB2 := Lib.hid (HB.out.trans (hb2.mono HB.out.size))
  clear hb2
  generalize hq : heavyD l 20 = q
  cases q with
  | true =>
    clear hq
    go_wp2_with fail
    go_ret
    exact ⟨rfl, HB2.out⟩
  | false =>
  have HNO := Lib.hid (heavyD_no hq)
  clear hq
  by_cases c0 : 100 < t.size
  · skip
    go_wp2_with fail
    go_ret
    exact ⟨rfl, HB2.out⟩
  skip
  have HC0 := Lib.hid c0
  by_cases c1 : 100 < c.size
  · skip
    go_wp2_with fail
    go_ret
    exact ⟨rfl, HB2.out⟩
  skip
  have HC1 := Lib.hid c1
  have HLK : Hid (LnOk L ∧ L.length ≤ 20) := Lib.hid (by
    have h1 := HNO.out.1
    have h2 := deeds_len l
    rw [HLL.out]
    exact ⟨deeds_ok l, by omega⟩)
  have HGR := Lib.hid (grown_any l vl w2 (HSL.out.below HB2.out (Nat.le_refl _)) (by have := HNO.out.1; omega) HNO.out.2)
  unfold GrownP at HGR
  rw [← HLL.out] at HGR
  clear HC0 HC1
  obtain ⟨i0, hi, hz, hsz, hby⟩ := info_parts infoPg
  have HI := Lib.hid (And.intro hi (And.intro hz (And.intro hsz hby)))
  clear hi hz hsz hby
  go_wp2_with (first
    | ((with_reducible refine HGR.out.mono ?_); rintro e w3 ⟨F, bk, bm, vm, rfl, hx3, hs3, ho3, hF3, hb3⟩; have H3 := Lib.hid (And.intro hs3 (And.intro ho3 hF3)); have HX3 := Lib.hid hx3; have HB3 := Lib.hid (HB2.out.trans (hb3.mono HB2.out.size)); clear hs3 ho3 hF3 hb3 hx3
       have HRK := Lib.hid (rankX_any HX3.out t HLK.out.2))
    | ((with_reducible refine HRK.out.mono ?_); rintro e w4 ⟨vr, rfl, hown4, hb4⟩
       obtain ⟨ar, cr, rfl⟩ : ∃ a c, vr = .slice a (rankOf (ofT L t)).length c := by simpa using (own_pgs hown4 rfl).shape
       have HR := Lib.hid (own_pgs hown4 rfl); have HB4 := Lib.hid hb4; clear hown4 hb4)
    | fail)
  obtain ⟨r, hr⟩ : ∃ r, r = rankOf (ofT L t) := ⟨_, rfl⟩
  have HRR := Lib.hid hr
  rw [← hr] at HR ⊢
  clear hr HRK
  have HRL : Hid (r.length ≤ 20) := Lib.hid (by rw [HRR.out, rank_len]; exact Nat.le_trans (ofT_le L t) HLK.out.2)
  have hrl : r.length ≤ 9223372036854775807 := by have := HRL.out; omega
  go_loopw [11, 12] (fun o i wr => ∃ k : Nat, k ≤ r.length ∧ i = .int .i64 k ∧ wr.ownsRow w4.heap.size 37 6 o ((r.take k).filter (notC c)).length (pgCells ((r.take k).filter (notC c))) ∧ Below w4.heap.size w4 wr) (fun _ i _ => r.length - (intOf i).toNat)
  case atStart => exact ⟨0, Nat.zero_le _, rfl, own_empty (Nat.le_refl _), one_below _ _⟩
  case round =>
    obtain ⟨k, hk, rfl, hown, hbel⟩ := hrel
    have HOWN := Lib.hid hown
    have HBEL := Lib.hid hbel
    by_cases hlt : k < r.length
    · obtain ⟨b, off, he, hb, hp⟩ := pg_at HR.out hlt
      cases he
      obtain ⟨d0, d1, d2, d3, d4, d5⟩ := hp.below hb hbel
      have HFS := Lib.hid (filter_next hlt (notC c))
      have HLE : Hid (((r.take k).filter (notC c)).length ≤ 4000) := Lib.hid (by
        have h1 := List.length_filter_le (notC c) (r.take k)
        have h2 := List.length_take_le k r
        have := HRL.out
        omega)
      have tk : ((k : Nat) : Int) < (r.length : Int) := by omega
      have hf : notC c r[k] = !(decide (r[k].cred = c)) := rfl
      generalize (r.take k).filter (notC c) = D at *
      generalize r[k] = x at *
      have HPO := Lib.hid (pg_one x)
      obtain ⟨xt, xd, xc, xy, xa, xh⟩ := x
      simp only [Pg.cells] at d0 d1 d2 d3 d4 d5 HPO hf
      have s2 := str_beq xc c
      generalize decide (xc = c) = q2 at *
      have HL : Hid (D.length + 1 ≤ maxLen ∧ (D.length + 1) * 72 ≤ 140737488355328 ∧ w4.heap.size ≤ wr.heap.size) := Lib.hid (by have := HLE.out; have := hbel.size; simp only [maxLen]; omega)
      clear hb hp hbel hown
      cases q2
      · have HF := Lib.hid (show notC c ⟨xt, xd, xc, xy, xa, xh⟩ = true by rw [hf]; rfl)
        clear hf
        go_wp2_with (first
          | (((with_reducible refine Any.wpl_push ?_ ?_ ?_ Try.underlying26 HI.out.1 HI.out.2.1 HI.out.2.2.1 HI.out.2.2.2 ?_ (by decide) ?_ (HPO.out) (HOWN.out) HL.out.1 HL.out.2.1 HL.out.2.2 ?_); rfl; rfl; rfl; rfl; rfl; intro v5 w5 hown5 hgrow5 hwho5); have HO5 := Lib.hid hown5; have HB5 := Lib.hid (HBEL.out.grown hgrow5 HBEL.out.size (fun k hk => (HOWN.out.lt k hk).1)); clear hown5 hgrow5 hwho5)
          | fail)
        go_roundw
        case rel => exact ⟨k + 1, by omega, by go_num, by
          have := HO5.out
          rw [HFS.out, if_pos HF.out]
          simpa [pgCells, Pg.row, Pg.cells] using this, HB5.out⟩
        case measure => (simp [intOf]) <;> omega
      · have HF := Lib.hid (show ¬ notC c ⟨xt, xd, xc, xy, xa, xh⟩ = true by rw [hf]; decide)
        clear hf
        go_wp2_with fail
        go_roundw
        case rel => exact ⟨k + 1, by omega, by go_num, by rw [HFS.out, if_neg HF.out]; exact HOWN.out, HBEL.out⟩
        case measure => (simp [intOf]) <;> omega
    · rw [List.take_of_length_le (by omega)] at hown
      have HO := Lib.hid hown
      obtain ⟨W, hW⟩ : ∃ W, W = r.filter (notC c) := ⟨_, rfl⟩
      have HWW := Lib.hid hW
      rw [← hW] at HO
      obtain ⟨ak, ck, rfl⟩ : ∃ a c, u11 = .slice a W.length c := by simpa using (own_pgs HO.out rfl).shape
      have hwl : W.length ≤ r.length := by rw [hW]; exact List.length_filter_le _ _
      have HWL := Lib.hid hwl
      have hx5 := (HX3.out.below HB4.out).below (HBEL.out.mono (Nat.le_refl _))
      have HX5 := Lib.hid hx5
      have HSW := Lib.hid (own_pgs HO.out rfl)
      have HOW : Hid (Off F (.slice ak W.length ck) ∨ W = []) := Lib.hid (.inl fun b hb hx => by
        have h1 := (HO.out.lt b hb).1
        have h2 := (HX3.out.below HB4.out).lt b hx
        omega)
      have HREL := Lib.hid (releaseX_any hx5 t c (by have := HLK.out.2; omega))
      have HB5 := Lib.hid (HB3.out.trans ((HB4.out.trans (HBEL.out.mono HB4.out.size)).mono HB3.out.size))
      have HRW : Hid (rankOf (ofT (relL L t c) t) = W) := Lib.hid (by rw [rank_rel, HWW.out, HRR.out]; rfl)
      have HOK2 : Hid (LnOk (relL L t c) ∧ (relL L t c).length ≤ 20) := Lib.hid ⟨relL_ok HLK.out.1 t c, Nat.le_trans (List.length_filter_le _ _) HLK.out.2⟩
      have HND : Hid ((W.map Pg.cred).Nodup) := Lib.hid (by rw [← HRW.out]; exact rank_nodup HOK2.out.1 t)
      have HC2 : Hid (relC (relL L t c) t c = 4) := Lib.hid (rel_no (by
        rw [HRW.out, HWW.out]
        intro x hx e
        have := (List.mem_filter.1 hx).2
        simp [notC, e] at this))
      have HCC : Hid ((relC L t c = 0 ∧ W.length < r.length) ∨ (relC L t c = 4 ∧ W.length = r.length)) := Lib.hid (by
        by_cases h : ∃ x ∈ r, x.cred = c
        · refine .inl ⟨rel_yes (by rw [← HRR.out]; exact h), ?_⟩
          have h1 := HWL.out
          have h2 : ¬ W.length = r.length := fun he => by
            obtain ⟨x, hx, hc⟩ := h
            rw [HWW.out] at he
            have := List.length_filter_eq_length_iff.1 he x hx
            simp [notC, hc] at this
          omega
        · refine .inr ⟨rel_no (by rw [← HRR.out]; exact fun x hx e => h ⟨x, hx, e⟩), ?_⟩
          rw [HWW.out]
          exact List.length_filter_eq_length_iff.2 fun x hx => by
            have : ¬ x.cred = c := fun e => h ⟨x, hx, e⟩
            simp [notC, this])
      clear hown hbel hW HOWN hk hx5
      obtain ⟨L2, hL2⟩ : ∃ L2, L2 = relL L t c := ⟨_, rfl⟩
      obtain ⟨q, hq⟩ : ∃ q, q = relC L t c := ⟨_, rfl⟩
      rw [← hL2] at HREL HRW HOK2 HC2
      rw [← hq] at HREL HCC
      clear hL2 hq
      rcases HCC.out with ⟨rfl, h2⟩ | ⟨rfl, h2⟩
      · have t1 : decide ((W.length : Int) < (r.length : Int)) = true := decide_eq_true (by omega)
        have t2 : decide (W.length < r.length) = true := decide_eq_true h2
        clear HCC h2
        go_wp2_with (first
          | ((with_reducible refine HREL.out.mono ?_); rintro e w6 ⟨F6, rfl, hx6, hf6, hk6⟩; have HX6 := Lib.hid hx6
             have HB6 := Lib.hid (Keep.behind HB5.out hk6 HB5.out.size (fun j hj h => absurd (H3.out.2.2 j h) (by have := HB2.out.size; omega)))
             have HF6 : Hid (∀ k, F6 k → w.heap.size ≤ k) := Lib.hid (fun k h => (hf6 k h).elim (fun h => Nat.le_trans HB2.out.size (H3.out.2.2 k h)) (Nat.le_trans HB5.out.size))
             have HSW6 := Lib.hid (sl_keepP HSW.out hk6 HOW.out); have HOW6 := Lib.hid (off_more HSW.out HOW.out hf6)
             have HRK2 := Lib.hid (rankX_any hx6 t HOK2.out.2); rw [HRW.out] at HRK2; clear hx6 hf6 hk6)
          | ((with_reducible refine HRK2.out.mono ?_); rintro e w7 ⟨v7, rfl, hown7, hb7⟩
             have HB7 := Lib.hid (HB6.out.trans (hb7.mono HB6.out.size)); have HX7 := Lib.hid (HX6.out.below hb7); have HSW7 := Lib.hid (HSW6.out.below hb7 (Nat.le_refl _))
             have HSM := Lib.hid (refSameP_any W W v7 _ w7 (own_pgs hown7 rfl) HSW7.out); rw [decide_eq_true (rfl : W = W)] at HSM; clear hown7 hb7)
          | ((with_reducible refine HSM.out.mono ?_); rintro e w8 ⟨rfl, hb8⟩
             have HB8 := Lib.hid (HB7.out.trans (hb8.mono HB7.out.size)); have HX8 := Lib.hid (HX7.out.below hb8); have HSW8 := Lib.hid (HSW7.out.below hb8 (Nat.le_refl _))
             have HR2 := Lib.hid (releaseX_any HX8.out t c (by have := HOK2.out.2; omega)); rw [HC2.out] at HR2; clear hb8)
          | ((with_reducible refine HR2.out.mono ?_); rintro e w9 ⟨F9, rfl, hx9, hf9, hk9⟩
             have HX9 := Lib.hid hx9
             have HF9 : Hid (∀ k, F9 k → w.heap.size ≤ k) := Lib.hid (fun k h => (hf9 k h).elim (HF6.out k) (Nat.le_trans HB8.out.size))
             have HB9 := Lib.hid (Keep.behind HB8.out hk9 HB8.out.size (fun j hj h => absurd (HF6.out j h) (by omega)))
             have HSW9 := Lib.hid (sl_keepP HSW8.out hk9 HOW6.out); have HOW9 := Lib.hid (off_more HSW8.out HOW6.out hf9); clear hx9 hf9 hk9)
          | fail)
        have HRW9 : Hid (rankOf (ofT (relL L2 t c) t) = W) := Lib.hid (by
          rw [rank_rel, HRW.out]
          refine List.filter_eq_self.2 fun x hx => ?_
          rw [HWW.out] at hx
          exact (List.mem_filter.1 hx).2)
        have HOK9 : Hid (LnOk (relL L2 t c) ∧ (relL L2 t c).length ≤ 20) := Lib.hid ⟨relL_ok HOK2.out.1 t c, Nat.le_trans (List.length_filter_le _ _) HOK2.out.2⟩
        clear t1 t2
        have hwl9 : W.length ≤ 9223372036854775807 := by have := HWL.out; have := HRL.out; omega
        go_loopw [14] (fun i wr => ∃ (k : Nat) (G : Nat → Prop) (lk : List Pg), k ≤ W.length ∧ i = .int .i64 k ∧ Lx wr G bk bm lk ∧ LnOk lk ∧ lk.length ≤ 20 ∧ rankOf (ofT lk t) = W.drop k ∧ Sl wr 6 (.slice ak W.length ck) (W.map Pg.row) ∧ (Off G (.slice ak W.length ck) ∨ W = []) ∧ (∀ j, G j → w.heap.size ≤ j) ∧ Below w.heap.size w wr) (fun i _ => W.length - (intOf i).toNat)
        case atStart => exact ⟨0, F9, _, Nat.zero_le _, rfl, HX9.out, HOK9.out.1, HOK9.out.2, HRW9.out, HSW9.out, HOW9.out, HF9.out, HB9.out⟩
        case round =>
          obtain ⟨k, G, lk, hk, rfl, hx, hok, hln, hrk, hsw, how, hG, hbel⟩ := hrel
          have HSWr := Lib.hid hsw
          have HOWr := Lib.hid how
          have HGr := Lib.hid (And.intro hG hbel)
          have HOKr := Lib.hid (And.intro hok hln)
          by_cases hlt : k < W.length
          · obtain ⟨b, off, he, hb, hp⟩ := pg_at hsw hlt
            cases he
            obtain ⟨-, -, d2, -⟩ := hp
            rw [List.drop_eq_getElem_cons hlt] at hrk
            have HRKr := Lib.hid hrk
            have HRC : Hid (relC lk t W[k].cred = 0) := Lib.hid (rel_yes ⟨_, by rw [hrk]; exact List.mem_cons_self, rfl⟩)
            have HRL2 := Lib.hid (releaseX_any hx t W[k].cred (by omega))
            rw [HRC.out] at HRL2
            have HDR : Hid ((W.drop (k + 1)).filter (fun x => !decide (x.cred = W[k].cred)) = W.drop (k + 1)) := Lib.hid (List.filter_eq_self.2 fun x hx => by
              have hn := HND.out
              rw [← List.take_append_drop k W, List.drop_eq_getElem_cons hlt, List.map_append, List.map_cons] at hn
              have h3 := (List.nodup_cons.1 (List.nodup_append.1 hn).2.1).1
              have : ¬ x.cred = W[k].cred := fun e => h3 (e ▸ List.mem_map_of_mem hx)
              simp [this])
            have tk : ((k : Nat) : Int) < (W.length : Int) := by omega
            generalize W[k] = x at *
            obtain ⟨xt, xd, xc, xy, xa, xh⟩ := x
            simp only at d2 HRL2 HDR
            clear hx hok hln hrk hsw how hG hbel hb
            go_wp2_with (first
              | ((with_reducible refine HRL2.out.mono ?_); rintro e wa ⟨Fa, rfl, hxa, hfa, hka⟩; have HA := Lib.hid (And.intro hxa (And.intro hfa hka)); clear hxa hfa hka)
              | fail)
            go_roundw
            case rel =>
              refine ⟨k + 1, Fa, relL lk t xc, by omega, by go_num, HA.out.1, relL_ok HOKr.out.1 _ _, Nat.le_trans (List.length_filter_le _ _) HOKr.out.2, ?_, sl_keepP HSWr.out HA.out.2.2 HOWr.out, off_more HSWr.out HOWr.out HA.out.2.1, fun j hj => (HA.out.2.1 j hj).elim (HGr.out.1 j) (Nat.le_trans HGr.out.2.size), Keep.behind HGr.out.2 HA.out.2.2 HGr.out.2.size (fun j hj h => absurd (HGr.out.1 j h) (by omega))⟩
              rw [rank_rel, HRKr.out, List.filter_cons_of_neg (by simp)]
              exact HDR.out
            case measure => (simp [intOf]) <;> omega
          · rw [List.drop_eq_nil_of_le (by omega)] at hrk
            have hnil : ofT lk t = [] := rank_none.1 (by rw [hrk]; rfl)
            have HFR := Lib.hid (freeX_any hx t)
            have HMW := Lib.hid (fun W' (hW : Below wr.heap.size wr W') => mayX_any (hx.below hW) t c)
            rw [hnil, decide_eq_true (show ([] : List Pg).length = 0 from rfl)] at HFR
            rw [hnil] at HMW
            clear hx hok hln hrk hsw how hG hbel hnil
            go_wp2_with (first
              | ((with_reducible refine HFR.out.mono ?_); rintro e wa ⟨rfl, hba⟩; have HBA := Lib.hid hba; clear hba)
              | ((with_reducible refine (HMW.out _ HBA.out).mono ?_); rintro e wb ⟨rfl, hbb⟩; have HBB := Lib.hid hbb; clear hbb)
              | fail)
            go_ret
            exact ⟨rfl, HGr.out.2.trans ((HBA.out.trans (HBB.out.mono HBA.out.size)).mono HGr.out.2.size)⟩
      · have t1 : decide ((W.length : Int) < (r.length : Int)) = false := decide_eq_false (by omega)
        have t2 : decide (W.length < r.length) = false := decide_eq_false (by omega)
        clear HCC h2
        go_wp2_with (first
          | ((with_reducible refine HREL.out.mono ?_); rintro e w6 ⟨F6, rfl, hx6, hf6, hk6⟩; have HX6 := Lib.hid hx6
             have HB6 := Lib.hid (Keep.behind HB5.out hk6 HB5.out.size (fun j hj h => absurd (H3.out.2.2 j h) (by have := HB2.out.size; omega)))
             have HF6 : Hid (∀ k, F6 k → w.heap.size ≤ k) := Lib.hid (fun k h => (hf6 k h).elim (fun h => Nat.le_trans HB2.out.size (H3.out.2.2 k h)) (Nat.le_trans HB5.out.size))
             have HSW6 := Lib.hid (sl_keepP HSW.out hk6 HOW.out); have HOW6 := Lib.hid (off_more HSW.out HOW.out hf6)
             have HRK2 := Lib.hid (rankX_any hx6 t HOK2.out.2); rw [HRW.out] at HRK2; clear hx6 hf6 hk6)
          | ((with_reducible refine HRK2.out.mono ?_); rintro e w7 ⟨v7, rfl, hown7, hb7⟩
             have HB7 := Lib.hid (HB6.out.trans (hb7.mono HB6.out.size)); have HX7 := Lib.hid (HX6.out.below hb7); have HSW7 := Lib.hid (HSW6.out.below hb7 (Nat.le_refl _))
             have HSM := Lib.hid (refSameP_any W W v7 _ w7 (own_pgs hown7 rfl) HSW7.out); rw [decide_eq_true (rfl : W = W)] at HSM; clear hown7 hb7)
          | ((with_reducible refine HSM.out.mono ?_); rintro e w8 ⟨rfl, hb8⟩
             have HB8 := Lib.hid (HB7.out.trans (hb8.mono HB7.out.size)); have HX8 := Lib.hid (HX7.out.below hb8); have HSW8 := Lib.hid (HSW7.out.below hb8 (Nat.le_refl _))
             have HR2 := Lib.hid (releaseX_any HX8.out t c (by have := HOK2.out.2; omega)); rw [HC2.out] at HR2; clear hb8)
          | ((with_reducible refine HR2.out.mono ?_); rintro e w9 ⟨F9, rfl, hx9, hf9, hk9⟩
             have HX9 := Lib.hid hx9
             have HF9 : Hid (∀ k, F9 k → w.heap.size ≤ k) := Lib.hid (fun k h => (hf9 k h).elim (HF6.out k) (Nat.le_trans HB8.out.size))
             have HB9 := Lib.hid (Keep.behind HB8.out hk9 HB8.out.size (fun j hj h => absurd (HF6.out j h) (by omega)))
             have HSW9 := Lib.hid (sl_keepP HSW8.out hk9 HOW6.out); have HOW9 := Lib.hid (off_more HSW8.out HOW6.out hf9); clear hx9 hf9 hk9)
          | fail)
        have HRW9 : Hid (rankOf (ofT (relL L2 t c) t) = W) := Lib.hid (by
          rw [rank_rel, HRW.out]
          refine List.filter_eq_self.2 fun x hx => ?_
          rw [HWW.out] at hx
          exact (List.mem_filter.1 hx).2)
        have HOK9 : Hid (LnOk (relL L2 t c) ∧ (relL L2 t c).length ≤ 20) := Lib.hid ⟨relL_ok HOK2.out.1 t c, Nat.le_trans (List.length_filter_le _ _) HOK2.out.2⟩
        clear t1 t2
        have hwl9 : W.length ≤ 9223372036854775807 := by have := HWL.out; have := HRL.out; omega
        go_loopw [14] (fun i wr => ∃ (k : Nat) (G : Nat → Prop) (lk : List Pg), k ≤ W.length ∧ i = .int .i64 k ∧ Lx wr G bk bm lk ∧ LnOk lk ∧ lk.length ≤ 20 ∧ rankOf (ofT lk t) = W.drop k ∧ Sl wr 6 (.slice ak W.length ck) (W.map Pg.row) ∧ (Off G (.slice ak W.length ck) ∨ W = []) ∧ (∀ j, G j → w.heap.size ≤ j) ∧ Below w.heap.size w wr) (fun i _ => W.length - (intOf i).toNat)
        case atStart => exact ⟨0, F9, _, Nat.zero_le _, rfl, HX9.out, HOK9.out.1, HOK9.out.2, HRW9.out, HSW9.out, HOW9.out, HF9.out, HB9.out⟩
        case round =>
          obtain ⟨k, G, lk, hk, rfl, hx, hok, hln, hrk, hsw, how, hG, hbel⟩ := hrel
          have HSWr := Lib.hid hsw
          have HOWr := Lib.hid how
          have HGr := Lib.hid (And.intro hG hbel)
          have HOKr := Lib.hid (And.intro hok hln)
          by_cases hlt : k < W.length
          · obtain ⟨b, off, he, hb, hp⟩ := pg_at hsw hlt
            cases he
            obtain ⟨-, -, d2, -⟩ := hp
            rw [List.drop_eq_getElem_cons hlt] at hrk
            have HRKr := Lib.hid hrk
            have HRC : Hid (relC lk t W[k].cred = 0) := Lib.hid (rel_yes ⟨_, by rw [hrk]; exact List.mem_cons_self, rfl⟩)
            have HRL2 := Lib.hid (releaseX_any hx t W[k].cred (by omega))
            rw [HRC.out] at HRL2
            have HDR : Hid ((W.drop (k + 1)).filter (fun x => !decide (x.cred = W[k].cred)) = W.drop (k + 1)) := Lib.hid (List.filter_eq_self.2 fun x hx => by
              have hn := HND.out
              rw [← List.take_append_drop k W, List.drop_eq_getElem_cons hlt, List.map_append, List.map_cons] at hn
              have h3 := (List.nodup_cons.1 (List.nodup_append.1 hn).2.1).1
              have : ¬ x.cred = W[k].cred := fun e => h3 (e ▸ List.mem_map_of_mem hx)
              simp [this])
            have tk : ((k : Nat) : Int) < (W.length : Int) := by omega
            generalize W[k] = x at *
            obtain ⟨xt, xd, xc, xy, xa, xh⟩ := x
            simp only at d2 HRL2 HDR
            clear hx hok hln hrk hsw how hG hbel hb
            go_wp2_with (first
              | ((with_reducible refine HRL2.out.mono ?_); rintro e wa ⟨Fa, rfl, hxa, hfa, hka⟩; have HA := Lib.hid (And.intro hxa (And.intro hfa hka)); clear hxa hfa hka)
              | fail)
            go_roundw
            case rel =>
              refine ⟨k + 1, Fa, relL lk t xc, by omega, by go_num, HA.out.1, relL_ok HOKr.out.1 _ _, Nat.le_trans (List.length_filter_le _ _) HOKr.out.2, ?_, sl_keepP HSWr.out HA.out.2.2 HOWr.out, off_more HSWr.out HOWr.out HA.out.2.1, fun j hj => (HA.out.2.1 j hj).elim (HGr.out.1 j) (Nat.le_trans HGr.out.2.size), Keep.behind HGr.out.2 HA.out.2.2 HGr.out.2.size (fun j hj h => absurd (HGr.out.1 j h) (by omega))⟩
              rw [rank_rel, HRKr.out, List.filter_cons_of_neg (by simp)]
              exact HDR.out
            case measure => (simp [intOf]) <;> omega
          · rw [List.drop_eq_nil_of_le (by omega)] at hrk
            have hnil : ofT lk t = [] := rank_none.1 (by rw [hrk]; rfl)
            have HFR := Lib.hid (freeX_any hx t)
            have HMW := Lib.hid (fun W' (hW : Below wr.heap.size wr W') => mayX_any (hx.below hW) t c)
            rw [hnil, decide_eq_true (show ([] : List Pg).length = 0 from rfl)] at HFR
            rw [hnil] at HMW
            clear hx hok hln hrk hsw how hG hbel hnil
            go_wp2_with (first
              | ((with_reducible refine HFR.out.mono ?_); rintro e wa ⟨rfl, hba⟩; have HBA := Lib.hid hba; clear hba)
              | ((with_reducible refine (HMW.out _ HBA.out).mono ?_); rintro e wb ⟨rfl, hbb⟩; have HBB := Lib.hid hbb; clear hbb)
              | fail)
            go_ret
            exact ⟨rfl, HGr.out.2.trans ((HBA.out.trans (HBB.out.mono HBA.out.size)).mono HGr.out.2.size)⟩
theorem lifted (os : Os) (started : os.Started) (H : Type) (enc : TypeId × Value → H) :
    ReturnsInHanded {} Try.checked os 5 .any (Rows.lienReleasesSpec.pre6 enc Try.prog Try.f5 Rows.lienReleasesRow.domain false) (Rows.lienReleasesSpec.post enc Try.prog Try.f5 false true false false) := by
  refine law_lifted os started (by kernel_rfl) Try.func5
    (ChangeSpec.witness6 (enc := enc) (C := Try.checked) false ⟨#[], #[.slice none 0 0, .string ⟨#[]⟩, .string ⟨#[]⟩], []⟩ 8 (by kernel_rfl) (by kernel_rfl) (by kernel_rfl) (by kernel_rfl))
    (by kernel_rfl) rfl rfl ?_ ?_
  · intro vs ds W p hA
    rw [Try.params5] at hA
    obtain ⟨v0, vs0, d0, ds0, p0, q0, rfl, rfl, rfl, h0, r0⟩ := trodAll_cons hA
    obtain ⟨v1, vs1, d1, ds1, p1, q1, rfl, rfl, rfl, h1, r1⟩ := trodAll_cons r0
    obtain ⟨v2, vs2, d2, ds2, p2, q2, rfl, rfl, rfl, h2, r2⟩ := trodAll_cons r1
    obtain ⟨rfl, rfl, rfl⟩ := trodAll_nil r2
    rfl
  · intro W base args ds p hval hA
    rw [Try.params5] at hA hval
    obtain ⟨v0, vs0, d0, ds0, p0, q0, hargs, rfl, rfl, h0, r0⟩ := trodAll_cons hA
    obtain ⟨v1, vs1, d1, ds1, p1, q1, rfl, rfl, rfl, h1, r1⟩ := trodAll_cons r0
    obtain ⟨v2, vs2, d2, ds2, p2, q2, rfl, rfl, rfl, h2, r2⟩ := trodAll_cons r1
    obtain ⟨rfl, rfl, rfl⟩ := trodAll_nil r2
    obtain rfl : args = #[v0, v1, v2] := by cases args; simp_all
    obtain ⟨l0, hs0, hf0⟩ := open_deeds (hval 0 22 v0 rfl rfl) h0
    obtain ⟨a1, rfl, rfl, rfl, w1⟩ := Go.ChangeMaps.open_string Try.underlying9 (hval 1 9 v1 rfl rfl) h1
    obtain ⟨a2, rfl, rfl, rfl, w2⟩ := Go.ChangeMaps.open_string Try.underlying9 (hval 2 9 v2 rfl rfl) h2
    exact walk W l0 v0 hs0 hf0 a1 w1 a2 w2

theorem over : Rows.lienReleasesRow.holds Try.pinned (OpenSpec.ofChange Rows.lienReleasesSpec) :=
  OpenClaim.holds_of_wide 5 Try.f5 rfl rfl rfl rfl rfl rfl rfl ⟨rfl, rfl, rfl, rfl, rfl⟩ rfl rfl rfl rfl rfl (by kernel_rfl) Try.func5 (by kernel_rfl)
    (of_decide_eq_true (by kernel_rfl)) (by unfold Func.isWrapper; rw [if_neg (by decide +kernel)]; exact ⟨rfl, rfl⟩)
    (fun os started H enc _ => lifted os started H enc)

/-- The statement. -/
theorem proved : Rows.LienReleasesSaid := over
#print axioms proved
end Go.Proofs.Ytnlfhncbnfmccaa.lienReleases
