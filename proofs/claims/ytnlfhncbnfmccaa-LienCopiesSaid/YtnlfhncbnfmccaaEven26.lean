/- Do liens tell just what pledges make: they do. -/
import Derived.Test.YtnlfhncbnfmccaaRefThings26
import Derived.Test.YtnlfhncbnfmccaaLawPl26
import Derived.Test.YtnlfhncbnfmccaaAwake26
namespace Go.Proofs.Ytnlfhncbnfmccaa.Sc
open Go Go.RowKit Go.ChangeShapes Go.WideShapes Go.ChangeAt
set_option maxRecDepth 100000
theorem shape_of {w : World} {B n sz : Nat} {e : TypeId} {v : Value} {xs : List Value} (h : w.ownsRow B e sz v n xs) : ∃ a c, v = .slice a n c := by
  rcases h.2 with ⟨rfl, h0⟩ | ⟨g, cap, cur, rfl, _⟩
  · subst h0; exact ⟨_, _, rfl⟩
  · exact ⟨_, _, rfl⟩
theorem st_at {w : World} {a : Option Addr} {n c : Nat} {l : List ByteArray} (h : Sl w 1 (.slice a n c) (l.map stRow)) {k : Nat} (hk : k < l.length) : ∃ b off, a = some ⟨b, off, none⟩ ∧ b < w.heap.size ∧ w.cell? ⟨b, off + k, none⟩ = some (.string l[k]) := by
  obtain ⟨b, off, e, -, hb, hc⟩ := h.at (i := k) (by simpa using hk)
  have hr := hc k (stRow l[k]) (by rw [List.getElem?_map, List.getElem?_eq_getElem hk]; rfl) 0 _ rfl
  rw [Nat.mul_one] at hr
  exact ⟨b, off, e, hb, hr⟩
theorem ofT_helds {l : List Pg} (h : LnOk l) (t : ByteArray) : (ofT l t).Pairwise fun x y => ¬ (x.held = true ∧ y.held = true) := by
  have h2 := h.helds.filter (p := fun x => decide (x.thing = t))
  refine List.Pairwise.imp_of_mem (fun {a b} ha hb hab => hab ?_) h2
  rw [(ofT_mem.1 ha).2, (ofT_mem.1 hb).2]
def mayW (l : List Pg) (t who : ByteArray) : Bool := !(ofT l t).any fun x => !decide (x.cred = who)
/-- Who may give it on: of the rank. -/
theorem may_rank {l : List Pg} (h : LnOk l) (t who : ByteArray) {r : List Pg} (hr : r = rankOf (ofT l t)) :
    (r.length = 0 → mayW l t who = true) ∧ (∀ h1 : r.length = 1, mayW l t who = decide ((r[0]'(by omega)).cred = who)) ∧ (2 ≤ r.length → mayW l t who = false) := by
  have hp := rankOf_perm (ofT l t)
  have hn := rank_nodup h t
  rw [← hr] at hp hn
  have hm : mayW l t who = !r.any fun x => !decide (x.cred = who) := by
    unfold mayW
    rw [hp.any_eq]
  rw [hm]
  clear hr hp hm
  refine ⟨fun h0 => ?_, fun h1 => ?_, fun h2 => ?_⟩
  · rw [List.length_eq_zero_iff.1 h0]; rfl
  · obtain ⟨x, rfl⟩ := List.length_eq_one_iff.1 h1
    simp
  · match r, h2, hn with
    | x :: y :: q, _, hn =>
      simp only [List.map_cons, List.nodup_cons, List.mem_cons, not_or] at hn
      have hne := hn.1.1
      simp only [List.any_cons, Bool.not_eq_false', Bool.or_eq_true, Bool.not_eq_true', decide_eq_false_iff_not]
      by_cases h1 : x.cred = who
      · exact .inr (.inl fun h2 => hne (h1.trans h2.symm))
      · exact .inl h1
set_option maxHeartbeats 16000000 in
theorem even_any {w : World} {F : Nat → Prop} {bk bm : Nat} {l : List Pg} (h : Lx w F bk bm l) (hok : LnOk l) (hl : l.length ≤ 39) (vm : Value) (hsm : Sl w 6 vm (l.map Pg.row)) (thing who : ByteArray) :
    Calls Try.prog 21 #[.pointer (some ⟨bk, 0, none⟩), vm, .string thing, .string who] w (RetB w true) := by
  have HX := Lib.hid h
  have HOK := Lib.hid hok
  have HL := Lib.hid hl
  have HSM := Lib.hid hsm
  have HRT := Lib.hid (refThings_any l vm w hsm (by omega))
  obtain ⟨i0, hi, hz, hsz, hby⟩ := info_parts infoStr
  have HI := Lib.hid (And.intro hi (And.intro hz (And.intro hsz hby)))
  obtain ⟨T, hT⟩ : ∃ T, T = thR l := ⟨_, rfl⟩
  have HTL : Hid (T.length ≤ 39) := Lib.hid (by rw [hT]; exact Nat.le_trans (thR_len l) hl)
  have HT := Lib.hid hT
  rw [← hT] at HRT
  have HTX := Lib.hid (fun W (hW : Below w.heap.size w W) => (by
    have h1 := things_any (HX.out.below hW) HOK.out (by have := HL.out; omega)
    rw [← HT.out] at h1
    exact h1 : Calls Try.prog 20 #[.pointer (some ⟨bk, 0, none⟩)] W (RetRow W 9 1 T.length (T.map Value.string))))
  clear h hok hl hsm hi hz hsz hby hT
  go_enter Try.func21, Try.ntmps21
  go_wp2_with (first
    | ((with_reducible refine HRT.out.mono ?_); rintro e w1 ⟨v1, rfl, ho1, hb1⟩; obtain ⟨a1, c1, rfl⟩ : ∃ a c, v1 = .slice a T.length c := shape_of ho1; have HO1 := Lib.hid ho1; have HB1 := Lib.hid hb1; clear ho1 hb1)
    | ((with_reducible refine (HTX.out _ HB1.out).mono ?_); rintro e w2 ⟨v2, rfl, ho2, hb2⟩; obtain ⟨a2, c2, rfl⟩ : ∃ a c, v2 = .slice a T.length c := shape_of ho2; have HO2 := Lib.hid ho2; have HO12 := Lib.hid (ownsRow_below HO1.out hb2); have HB2 := Lib.hid (HB1.out.trans (hb2.mono HB1.out.size))
       have HTE := Lib.hid (by
         have h1 := refTexts26_any T T _ _ w2 (own_strs (l := T) HO2.out rfl) (own_strs HO12.out rfl)
         rw [decide_eq_true rfl] at h1
         exact h1 : Calls Try.prog 36 #[.slice a2 T.length c2, .slice a1 T.length c1] w2 (RetB w2 true)); clear ho2 hb2)
    | ((with_reducible refine HTE.out.mono ?_); rintro e w3 ⟨rfl, hb3⟩; have HO3 := Lib.hid (ownsRow_below HO12.out hb3); have HB3 := Lib.hid (HB2.out.trans (hb3.mono HB2.out.size))
       have HSR := Lib.hid (src_strs (own_strs (ownsRow_below HO3.out (one_below w3 (.cells #[] 9))) rfl))
       have HLA : Hid (0 + T.length ≤ maxLen ∧ (0 + T.length) * 16 ≤ 140737488355328) := Lib.hid (by have := HTL.out; simp only [maxLen]; omega); clear hb3)
    | ((with_reducible refine Any.wpl_append (size := 1) (bytes := 16) (n := 0) (m := T.length) (base := w3.heap.size) (vx := .slice (some ⟨w3.heap.size, 0, none⟩) 0 0) (vy := .slice a1 T.length c1) ?_ ?_ ?_ Try.underlying49 HI.out.1 HI.out.2.1 HI.out.2.2.1 HI.out.2.2.2 ?_ (by decide) (own_empty (Nat.le_refl _)) HSR.out (strs_one _) HLA.out.1 HLA.out.2 (by simp) ?_); rfl; rfl; rfl; rfl; intro v4 w4 hown4 hgrow4 hwho4
       rw [List.nil_append, Nat.zero_add] at hown4
       have HO4 := Lib.hid hown4
       have HB4 := Lib.hid ((one_below w3 (.cells #[] 9)).grown hgrow4 (by simp) (fun k hk => by have : w3.heap.size = k := Option.some.inj hk; omega))
       have HL4 : Hid (T.length + 1 ≤ maxLen ∧ (T.length + 1) * 16 ≤ 140737488355328 ∧ w3.heap.size ≤ w4.heap.size) := Lib.hid (by have := HTL.out; have := HB4.out.size; simp only [maxLen]; omega)
       obtain ⟨a4, c4, rfl⟩ := shape_of hown4
       clear hown4 hgrow4 hwho4)
    | (((with_reducible refine Any.wpl_push ?_ ?_ ?_ Try.underlying49 HI.out.1 HI.out.2.1 HI.out.2.2.1 HI.out.2.2.2 ?_ (by decide) ?_ (str_one thing) (HO4.out) HL4.out.1 HL4.out.2.1 HL4.out.2.2 ?_); rfl; rfl; rfl; rfl; rfl; intro v5 w5 hown5 hgrow5 hwho5)
       have HO5 := Lib.hid hown5
       have HB5 := Lib.hid (HB4.out.grown hgrow5 HB4.out.size (fun q hq => by have := (HO4.out.lt q hq).1; omega))
       clear hown5 hgrow5 hwho5)
    | fail)
  obtain ⟨U, hU⟩ : ∃ U, U = T ++ [thing] := ⟨_, rfl⟩
  have HU : Hid (w5.ownsRow w3.heap.size 9 1 v5 U.length (strCells U)) := Lib.hid (by
    have h1 := HO5.out
    rw [hU]
    simpa [strCells] using h1)
  have hul : U.length ≤ 40 := by rw [hU]; have := HTL.out; simp; omega
  obtain ⟨au, cu, rfl⟩ : ∃ a c, v5 = .slice a U.length c := shape_of HU.out
  have HSU := Lib.hid (own_strs HU.out rfl)
  have HB := Lib.hid (HB3.out.trans (HB5.out.mono HB3.out.size))
  clear hU
  go_loopw [11, 12, 13] (fun i _ _ wr => ∃ k : Nat, k ≤ U.length ∧ i = .int .i64 k ∧ Below w5.heap.size w5 wr) (fun i _ _ _ => U.length - (intOf i).toNat)
  case atStart => exact ⟨0, Nat.zero_le _, rfl, Below.refl _ _⟩
  case round =>
    obtain ⟨k, hk, rfl, hbel⟩ := hrel
    have HBL := Lib.hid hbel
    by_cases hlt : k < U.length
    · have hki : ((k : Nat) : Int) < (U.length : Int) := by omega
      have HKL := Lib.hid hlt
      obtain ⟨b, off, he, hb, hc0⟩ := st_at HSU.out hlt
      cases he
      have HC := Lib.hid (fun W (hW : Below w5.heap.size w5 W) => (hW.cell (p := ⟨b, off + k, none⟩) hb).trans hc0)
      have HWW := Lib.hid (fun W (hW : Below w5.heap.size w5 W) => HB.out.trans (hW.mono HB.out.size))
      generalize U[k] = t at *
      obtain ⟨r, hr⟩ : ∃ r, r = rankOf (ofT l t) := ⟨_, rfl⟩
      have HRR := Lib.hid (fun W (hW : Below w.heap.size w W) => (by
        have h1 := refRank_any l t vm W (HSM.out.below hW (Nat.le_refl _)) (by have := HL.out; omega) (ofT_helds HOK.out t)
        rw [← hr] at h1
        exact h1 : Calls Try.prog 37 #[vm, .string t] W (RetRow W 37 6 r.length (pgCells r))))
      have HRX := Lib.hid (fun W (hW : Below w.heap.size w W) => (by
        have h1 := rankX_any (HX.out.below hW) t HL.out
        rw [← hr] at h1
        exact h1 : Calls Try.prog 13 #[.pointer (some ⟨bk, 0, none⟩), .string t] W (RetRow W 37 6 r.length (pgCells r))))
      have HFX := Lib.hid (fun W (hW : Below w.heap.size w W) => (by
        have h1 := freeX_any (HX.out.below hW) t
        rw [← rank_len l t, ← hr] at h1
        exact h1 : Calls Try.prog 16 #[.pointer (some ⟨bk, 0, none⟩), .string t] W (RetB W (decide (r.length = 0)))))
      obtain ⟨MB, hMB⟩ : ∃ q, q = mayW l t who := ⟨_, rfl⟩
      have HMX := Lib.hid (fun W (hW : Below w.heap.size w W) => (by
        have h1 := mayX_any (HX.out.below hW) t who
        rw [hMB]
        exact h1 : Calls Try.prog 18 #[.pointer (some ⟨bk, 0, none⟩), .string t, .string who] W (RetB W MB)))
      have hmr := may_rank HOK.out t who hr
      rw [← hMB] at hmr
      have hrl : r.length ≤ 39 := by rw [hr, rank_len]; exact Nat.le_trans (ofT_le l t) HL.out
      have HSA := Lib.hid (fun W v u (h1 : Sl W 6 v (r.map Pg.row)) (h2 : Sl W 6 u (r.map Pg.row)) => (by
        have h := refSameP_any r r v u W h1 h2
        rw [decide_eq_true rfl] at h
        exact h : Calls Try.prog 15 #[v, u] W (RetB W true)))
      have d0 := HC.out wr hbel
      clear hr hMB hb hc0 hbel hk
      obtain ⟨m1, m2, m3⟩ := hmr
      obtain ⟨n, hrn⟩ : ∃ n, r.length = n := ⟨_, rfl⟩
      have HRN : Hid (n = r.length) := Lib.hid hrn.symm
      rw [hrn] at HRR HRX HFX hrl m1 m3
      rcases (by omega : n = 0 ∨ n = 1 ∨ 2 ≤ n) with h0 | h1 | h2
      · skip
        obtain rfl := m1 h0
        subst h0
        clear m1 m2 m3 hrl hrn
        have z1 : decide ((0 : Nat) = 0) = true := rfl
        rw [z1] at HFX
        clear z1
        go_wp2_with (first
          | ((with_reducible refine (HRR.out _ (HWW.out _ HBL.out)).mono ?_); rintro e w6 ⟨v6, rfl, ho6, hb6⟩; obtain ⟨a6, c6, rfl⟩ : ∃ a c, v6 = .slice a 0 c := shape_of ho6; have HR6 := Lib.hid (own_pgs ho6 HRN.out); have HB6 := Lib.hid (HBL.out.trans (hb6.mono HBL.out.size)); have d6 := HC.out w6 HB6.out;  clear ho6 hb6)
          | ((with_reducible refine (HRX.out _ (HWW.out _ HB6.out)).mono ?_); rintro e w7 ⟨v7, rfl, ho7, hb7⟩; obtain ⟨a7, c7, rfl⟩ : ∃ a c, v7 = .slice a 0 c := shape_of ho7; have HR7 := Lib.hid (own_pgs ho7 HRN.out); have HB7 := Lib.hid (HB6.out.trans (hb7.mono HB6.out.size)); have HS7 := Lib.hid (HSA.out w7 _ _ HR7.out (HR6.out.below hb7 (Nat.le_refl _))); clear ho7 hb7)
          | ((with_reducible refine HS7.out.mono ?_); rintro e w8 ⟨rfl, hb8⟩; have HB8 := Lib.hid (HB7.out.trans (hb8.mono HB7.out.size)); have d8 := HC.out w8 HB8.out; clear hb8)
          | ((with_reducible refine (HFX.out _ (HWW.out _ HB8.out)).mono ?_); rintro e w9 ⟨rfl, hb9⟩; have HB9 := Lib.hid (HB8.out.trans (hb9.mono HB8.out.size)); have d9 := HC.out w9 HB9.out; clear hb9)
          | ((with_reducible refine (HMX.out _ (HWW.out _ HB9.out)).mono ?_); rintro e w10 ⟨rfl, hb10⟩; have HB10 := Lib.hid (HB9.out.trans (hb10.mono HB9.out.size)); clear hb10)
          | fail)
        go_roundw
        case rel => exact ⟨k + 1, HKL.out, by go_num, HB10.out⟩
        case measure => have := HKL.out; (simp [intOf]) <;> omega
      · skip
        have hm := m2 (hrn.trans h1)
        subst h1
        obtain ⟨x, rfl⟩ := List.length_eq_one_iff.1 hrn
        simp only [List.getElem_cons_zero] at hm
        rw [← str_beq] at hm
        clear m1 m2 m3 hrl hrn
        have z1 : decide ((1 : Nat) = 0) = false := rfl
        rw [z1] at HFX
        clear z1
        obtain ⟨q, hq⟩ : ∃ q, (x.cred.toList == who.toList) = q := ⟨_, rfl⟩
        rw [hq] at hm
        subst hm
        have sq : (MB != MB) = false := by simp
        go_wp2_with (first
          | ((with_reducible refine (HRR.out _ (HWW.out _ HBL.out)).mono ?_); rintro e w6 ⟨v6, rfl, ho6, hb6⟩; obtain ⟨a6, c6, rfl⟩ : ∃ a c, v6 = .slice a 1 c := shape_of ho6; have HR6 := Lib.hid (own_pgs ho6 HRN.out); have HB6 := Lib.hid (HBL.out.trans (hb6.mono HBL.out.size)); have d6 := HC.out w6 HB6.out; obtain ⟨bq, oq, heq, -, hpq⟩ := pg_at HR6.out (k := 0) (by simp); cases heq; have dq := hpq.2.2.1; rw [Nat.zero_mul, Nat.add_zero] at dq; simp only [List.getElem_cons_zero] at dq; clear hpq; clear ho6 hb6)
          | ((with_reducible refine (HRX.out _ (HWW.out _ HB6.out)).mono ?_); rintro e w7 ⟨v7, rfl, ho7, hb7⟩; obtain ⟨a7, c7, rfl⟩ : ∃ a c, v7 = .slice a 1 c := shape_of ho7; have HR7 := Lib.hid (own_pgs ho7 HRN.out); have HB7 := Lib.hid (HB6.out.trans (hb7.mono HB6.out.size)); have HS7 := Lib.hid (HSA.out w7 _ _ HR7.out (HR6.out.below hb7 (Nat.le_refl _))); clear ho7 hb7)
          | ((with_reducible refine HS7.out.mono ?_); rintro e w8 ⟨rfl, hb8⟩; have HB8 := Lib.hid (HB7.out.trans (hb8.mono HB7.out.size)); have d8 := HC.out w8 HB8.out; clear hb8)
          | ((with_reducible refine (HFX.out _ (HWW.out _ HB8.out)).mono ?_); rintro e w9 ⟨rfl, hb9⟩; have HB9 := Lib.hid (HB8.out.trans (hb9.mono HB8.out.size)); have d9 := HC.out w9 HB9.out; clear hb9)
          | ((with_reducible refine (HMX.out _ (HWW.out _ HB9.out)).mono ?_); rintro e w10 ⟨rfl, hb10⟩; have HB10 := Lib.hid (HB9.out.trans (hb10.mono HB9.out.size)); clear hb10)
          | fail)
        go_roundw
        case rel => exact ⟨k + 1, HKL.out, by go_num, HB10.out⟩
        case measure => have := HKL.out; (simp [intOf]) <;> omega
      · skip
        obtain rfl := m3 (by omega)
        have z0 : (((n : Nat) : Int) == 0) = false := by rw [beq_eq_false_iff_ne]; omega
        have z1 : (((n : Nat) : Int) == 1) = false := by rw [beq_eq_false_iff_ne]; omega
        have z2 : decide (n = 0) = false := decide_eq_false (by omega)
        rw [z2] at HFX
        clear z2 m1 m2 m3 hrl hrn h2
        go_wp2_with (first
          | ((with_reducible refine (HRR.out _ (HWW.out _ HBL.out)).mono ?_); rintro e w6 ⟨v6, rfl, ho6, hb6⟩; obtain ⟨a6, c6, rfl⟩ : ∃ a c, v6 = .slice a n c := shape_of ho6; have HR6 := Lib.hid (own_pgs ho6 HRN.out); have HB6 := Lib.hid (HBL.out.trans (hb6.mono HBL.out.size)); have d6 := HC.out w6 HB6.out;  clear ho6 hb6)
          | ((with_reducible refine (HRX.out _ (HWW.out _ HB6.out)).mono ?_); rintro e w7 ⟨v7, rfl, ho7, hb7⟩; obtain ⟨a7, c7, rfl⟩ : ∃ a c, v7 = .slice a n c := shape_of ho7; have HR7 := Lib.hid (own_pgs ho7 HRN.out); have HB7 := Lib.hid (HB6.out.trans (hb7.mono HB6.out.size)); have HS7 := Lib.hid (HSA.out w7 _ _ HR7.out (HR6.out.below hb7 (Nat.le_refl _))); clear ho7 hb7)
          | ((with_reducible refine HS7.out.mono ?_); rintro e w8 ⟨rfl, hb8⟩; have HB8 := Lib.hid (HB7.out.trans (hb8.mono HB7.out.size)); have d8 := HC.out w8 HB8.out; clear hb8)
          | ((with_reducible refine (HFX.out _ (HWW.out _ HB8.out)).mono ?_); rintro e w9 ⟨rfl, hb9⟩; have HB9 := Lib.hid (HB8.out.trans (hb9.mono HB8.out.size)); have d9 := HC.out w9 HB9.out; clear hb9)
          | ((with_reducible refine (HMX.out _ (HWW.out _ HB9.out)).mono ?_); rintro e w10 ⟨rfl, hb10⟩; have HB10 := Lib.hid (HB9.out.trans (hb10.mono HB9.out.size)); clear hb10)
          | fail)
        go_roundw
        case rel => exact ⟨k + 1, HKL.out, by go_num, HB10.out⟩
        case measure => have := HKL.out; (simp [intOf]) <;> omega
    · have hki : ¬ ((k : Nat) : Int) < (U.length : Int) := by omega
      clear hbel hlt hk
      go_wp2_with fail
      go_ret
      exact ⟨rfl, HB.out.trans (HBL.out.mono HB.out.size)⟩
end Go.Proofs.Ytnlfhncbnfmccaa.Sc
