/- What is done to a bond isn't done to its copy. No condition. -/
import Derived.Test.YtehlhfcaajhhaaaPlay45
import Derived.Test.YtehlhfcaajhhaaaAwake45
namespace Go.Proofs.Ytehlhfcaajhhaaa.Sc
open Go Go.RowKit
theorem copy_apart {w : World} {bp bm bq bn : Nat} {L : Int} {l : List Bx} (hb : Bst w bp bm L l) (h1 : w.heap.size ≤ bq) (h2 : w.heap.size ≤ bn) : (¬ bq = bp ∧ ¬ bq = bm) ∧ (¬ bn = bp ∧ ¬ bn = bm) := by
  have h3 := lt_blk hb.box
  obtain ⟨es, hm, -⟩ := hb.map
  have h4 := hm.lt
  omega
end Go.Proofs.Ytehlhfcaajhhaaa.Sc
namespace Go.Proofs.Ytehlhfcaajhhaaa.dutyCopies
open Go.ChangeShapes Go.WideShapes Go.ChangeAt Go.RowKit Go Sc
set_option maxRecDepth 100000

set_option maxHeartbeats 8000000 in
theorem walk (w : World) (limit : Int) (_ : (Lit.int .i64 limit).wf = true) (ops : List O5) (v : Value) (hs : Sl w 5 v (ops.map O5.row)) (hf : ∀ o ∈ ops, o.fit) (more : List O5) (u : Value) (hsm : Sl w 5 u (more.map O5.row)) (_ : ∀ o ∈ more, o.fit) :
    Calls Try.prog 7 #[.int .i64 limit, v, u] w (RetB w true) := by
  have HAW := Lib.hid (fun W => awake_any W)
  have HLO := Lib.hid (long_any ops v w hs)
  have HLM := Lib.hid (fun W (hW : Below w.heap.size w W) => long_any more u W (hsm.below hW (Nat.le_refl _)))
  obtain ⟨ma, mc, rfl⟩ : ∃ a c, u = .slice a more.length c := by simpa using hsm.shape
  have HSM := Lib.hid hsm
  clear hsm
  cases hlr : longR ops
  · rw [hlr] at HLO
    have hol : ops.length ≤ 60 := by
      simp only [longR, Bool.or_eq_false_iff, decide_eq_false_iff_not] at hlr
      omega
    have HPL := Lib.hid (fun W (hW : Below w.heap.size w W) => play_any limit ops v W (hs.below hW (Nat.le_refl _)) (by omega) hf)
    have HKL : Hid ((playL (limOf limit) ops).length ≤ 60) := Lib.hid (Nat.le_trans (playL_len _ _) hol)
    generalize playL (limOf limit) ops = lk at *
    clear hlr hs hf hol
    cases hlm : longR more
    · rw [hlm] at HLM
      have hml : more.length ≤ 60 := by
        simp only [longR, Bool.or_eq_false_iff, decide_eq_false_iff_not] at hlm
        omega
      clear hlm
      generalize limOf limit = L at *
      have HCP := Lib.hid (fun bp bm W (h : Bst W bp bm L lk) => bcopy_any lk L bp bm W h)
      go_enter Try.func7, Try.ntmps7
      go_wp2_with (first
        | ((with_reducible refine HLO.out.mono ?_); rintro e w1 ⟨rfl, hb1⟩; have HB := Lib.hid hb1; clear hb1)
        | ((with_reducible refine (HLM.out _ HB.out).mono ?_); rintro e w21 ⟨rfl, hb21⟩; have HB := Lib.hid (HB.out.trans (hb21.mono HB.out.size)); clear hb21)
        | ((with_reducible refine (HPL.out _ HB.out).mono ?_); rintro e w2 ⟨bp, bm, vv, rfl, hs2, hv2, ho2, hp2, hb2⟩; have HBS := Lib.hid hs2; have HSX := Lib.hid hv2; have HOF : Hid (Off (fun k => k = bp ∨ k = bm) vv) := Lib.hid (fun b hb h => h.elim (ho2 b hb).1 (ho2 b hb).2.1); have HPP := Lib.hid (And.intro (Nat.le_trans HB.out.size hp2.1) (Nat.le_trans HB.out.size hp2.2)); have HB := Lib.hid (HB.out.trans (hb2.mono HB.out.size)); clear hs2 hv2 ho2 hp2 hb2)
        | ((with_reducible refine (HCP.out _ _ _ HBS.out).mono ?_); rintro e w22 ⟨bq, bn, rfl, h1, h2, hs22, hb22⟩; have HQ : Hid ((¬ bq = bp ∧ ¬ bq = bm) ∧ (¬ bn = bp ∧ ¬ bn = bm)) := Lib.hid (copy_apart HBS.out h1 h2); have HBC := Lib.hid hs22; have HB := Lib.hid (HB.out.trans (hb22.mono HB.out.size)); have HSX := Lib.hid (HSX.out.below hb22 (Nat.le_refl _)); have HBS := Lib.hid (HBS.out.below hb22); clear hs22 hb22 h1 h2)
        | fail)
      go_loopw [11, 33] (fun _ i wr => ∃ (k : Nat) (l' : List Bx), k ≤ more.length ∧ i = .int .i64 k ∧ l'.length ≤ lk.length + k ∧ Bst wr bp bm L l' ∧ Bst wr bq bn L lk ∧ Sl wr 4 vv (lk.map Bx.row) ∧ Below w.heap.size w wr) (fun _ i _ => more.length - (intOf i).toNat)
      case atStart => exact ⟨0, lk, Nat.zero_le _, rfl, by omega, HBS.out, HBC.out, HSX.out, HB.out⟩
      case round =>
        obtain ⟨k, l', hk, rfl, hll, hbs, hbc, hsv, hbel⟩ := hrel
        have HB0 := Lib.hid hbel
        by_cases hlt : k < more.length
        · obtain ⟨b, off, rfl, -, hb, hc⟩ := HSM.out.at (i := k) (by simpa using hlt)
          have hr : (more.map O5.row)[k]? = some more[k].row := by rw [List.getElem?_map, List.getElem?_eq_getElem hlt]; rfl
          have d0 := (hbel.cell (p := ⟨b, off + k * 5, none⟩) hb).trans (hc k _ hr 0 _ rfl)
          have d1 := (hbel.cell (p := ⟨b, off + k * 5 + 1, none⟩) hb).trans (hc k _ hr 1 _ rfl)
          have d2 := (hbel.cell (p := ⟨b, off + k * 5 + 2, none⟩) hb).trans (hc k _ hr 2 _ rfl)
          have d3 := (hbel.cell (p := ⟨b, off + k * 5 + 3, none⟩) hb).trans (hc k _ hr 3 _ rfl)
          have d4 := (hbel.cell (p := ⟨b, off + k * 5 + 4, none⟩) hb).trans (hc k _ hr 4 _ rfl)
          generalize more[k] = x at *
          obtain ⟨xk, xd, xb, xt, xn⟩ := x
          simp only at d0 d1 d2 d3 d4
          have HBO := Lib.hid (one_below wr (.cells #[.int .i64 xk, .int .i64 xd, .string xb, .string xt, .int .i64 xn] 57))
          have HBS := Lib.hid (hbs.below HBO.out)
          have HBC := Lib.hid (hbc.below HBO.out)
          have HSX := Lib.hid (hsv.below HBO.out (Nat.le_refl _))
          have HB := Lib.hid (HB0.out.trans (HBO.out.mono HB0.out.size))
          have HEN := Lib.hid (fun W (h : Bst W bp bm L l') => enter_any l' L bp bm xb xn xd W h (by have := HKL.out; omega))
          have HEX := Lib.hid (fun W (h : Bst W bp bm L l') => export_any l' L bp bm xb W h)
          have HLL := Lib.hid hll
          clear hr hc hbel hbs hbc hsv hll
          by_cases hk1 : xk = 1
          · have t1 : (xk == 1) = true := by simp [hk1]
            clear hk1
            go_wp2_with (first
              | ((with_reducible refine (HEN.out _ HBS.out).mono ?_); rintro e w23 ⟨rfl, hs23, hk23⟩; have HSX := Lib.hid (HSX.out.keep hk23 HOF.out); have HBC := Lib.hid (HBC.out.keep hk23 (fun h => h.elim HQ.out.1.1 HQ.out.1.2) (fun h => h.elim HQ.out.2.1 HQ.out.2.2)); have HB := Lib.hid (hk23.behind HB.out HB.out.size (fun k hk h => by have := HPP.out; omega)); have HBS := Lib.hid hs23; clear hs23 hk23)
              | fail)
            go_roundw
            case rel => exact ⟨k + 1, enterL l' L xb xn xd, by omega, by go_num, by have := HLL.out; have := enterL_len l' L xb xn xd; omega, HBS.out, HBC.out, HSX.out, HB.out⟩
            case measure => (simp [intOf]) <;> omega
          · have t1 : (xk == 1) = false := by simp [hk1]
            clear hk1
            go_wp2_with (first
              | ((with_reducible refine (HEX.out _ HBS.out).mono ?_); rintro e w23 ⟨rfl, hs23, hk23⟩; have HSX := Lib.hid (HSX.out.keep hk23 HOF.out); have HBC := Lib.hid (HBC.out.keep hk23 (fun h => h.elim HQ.out.1.1 HQ.out.1.2) (fun h => h.elim HQ.out.2.1 HQ.out.2.2)); have HB := Lib.hid (hk23.behind HB.out HB.out.size (fun k hk h => by have := HPP.out; omega)); have HBS := Lib.hid hs23; clear hs23 hk23)
              | fail)
            go_roundw
            case rel => exact ⟨k + 1, leaveL l' xb 2 rfExp, by omega, by go_num, by have := HLL.out; have := leaveL_len l' xb 2 rfExp; omega, HBS.out, HBC.out, HSX.out, HB.out⟩
            case measure => (simp [intOf]) <;> omega
        · have HBS := Lib.hid hbc
          have HSX := Lib.hid hsv
          have HB := Lib.hid hbel
          have HUS := Lib.hid (fun bp bm W (h : Bst W bp bm L lk) => used_any lk L bp bm W h)
          have HRU := Lib.hid (fun W hg hu (h : Sl W 4 vv (lk.map Bx.row)) => refUsed_any lk vv W h hg hu)
          have HDU := Lib.hid (fun bp bm W (h : Bst W bp bm L lk) => due_any lk L bp bm 1048576 W h (by have := HKL.out; omega))
          have HRD := Lib.hid (fun W (h : Sl W 4 vv (lk.map Bx.row)) => refDue_any lk 1048576 vv W h (by have := HKL.out; omega))
          have tu : (usedOf lk == usedOf lk) = true := by simp
          clear hbel hbs hbc hsv
          go_wp2_with (first
            | ((with_reducible refine (HUS.out _ _ _ HBS.out).mono ?_); rintro e w24 ⟨rfl, hb24⟩; have HB := Lib.hid (HB.out.trans (hb24.mono HB.out.size)); have HSX := Lib.hid (HSX.out.below hb24 (Nat.le_refl _)); have HBS := Lib.hid (HBS.out.below hb24); clear hb24)
            | ((with_reducible refine (HRU.out _ HBS.out.good (by have h1 := HBS.out.us; have h2 := HBS.out.lim; omega) HSX.out).mono ?_); rintro e w25 ⟨rfl, hb25⟩; have HB := Lib.hid (HB.out.trans (hb25.mono HB.out.size)); have HSX := Lib.hid (HSX.out.below hb25 (Nat.le_refl _)); have HBS := Lib.hid (HBS.out.below hb25); clear hb25)
            | ((with_reducible refine (HDU.out _ _ _ HBS.out).mono ?_); rintro e w5 ⟨v5, rfl, ht5, hb5⟩; have HT5 := Lib.hid ht5; have HB := Lib.hid (HB.out.trans (hb5.mono HB.out.size)); have HSX := Lib.hid (HSX.out.below hb5 (Nat.le_refl _)); have HBS := Lib.hid (HBS.out.below hb5); clear ht5 hb5)
            | ((with_reducible refine (HRD.out _ HSX.out).mono ?_); rintro e w6 ⟨v6, rfl, ht6, hb6⟩; have HT6 := Lib.hid ht6; have HT5 := Lib.hid (HT5.out.below hb6 (Nat.le_refl _)); have HB := Lib.hid (HB.out.trans (hb6.mono HB.out.size)); have HSX := Lib.hid (HSX.out.below hb6 (Nat.le_refl _)); have HBS := Lib.hid (HBS.out.below hb6); clear ht6 hb6)
            | ((with_reducible refine (refTexts_any _ _ _ _ _ HT5.out HT6.out).mono ?_); rintro e w7 ⟨rfl, hb7⟩; rw [decide_eq_true rfl]; have HB := Lib.hid (HB.out.trans (hb7.mono HB.out.size)); have HSX := Lib.hid (HSX.out.below hb7 (Nat.le_refl _)); have HBS := Lib.hid (HBS.out.below hb7); clear hb7)
            | ((with_reducible refine (HAW.out _).mono ?_); rintro e w9 ⟨rfl, hb9⟩; have HB := Lib.hid (HB.out.trans (hb9.mono HB.out.size)); clear hb9)
            | fail)
          go_ret
          exact ⟨rfl, HB.out⟩
    · rw [hlm] at HLM
      clear hlm
      go_enter Try.func7, Try.ntmps7
      go_wp2_with (first
        | ((with_reducible refine HLO.out.mono ?_); rintro e w1 ⟨rfl, hb1⟩; have HB := Lib.hid hb1; clear hb1)
        | ((with_reducible refine (HLM.out _ HB.out).mono ?_); rintro e w21 ⟨rfl, hb21⟩; have HB := Lib.hid (HB.out.trans (hb21.mono HB.out.size)); clear hb21)
        | ((with_reducible refine (HAW.out _).mono ?_); rintro e w9 ⟨rfl, hb9⟩; have HB := Lib.hid (HB.out.trans (hb9.mono HB.out.size)); clear hb9)
        | fail)
      go_ret
      exact ⟨rfl, HB.out⟩
  · rw [hlr] at HLO
    clear hlr hs hf
    go_enter Try.func7, Try.ntmps7
    go_wp2_with (first
      | ((with_reducible refine HLO.out.mono ?_); rintro e w1 ⟨rfl, hb1⟩; have HB := Lib.hid hb1; clear hb1)
      | ((with_reducible refine (HAW.out _).mono ?_); rintro e w9 ⟨rfl, hb9⟩; have HB := Lib.hid (HB.out.trans (hb9.mono HB.out.size)); clear hb9)
      | fail)
    go_ret
    exact ⟨rfl, HB.out⟩

theorem lifted (os : Os) (started : os.Started) (H : Type) (enc : TypeId × Value → H) :
    ReturnsInHanded {} Try.checked os 7 .any (Rows.dutyCopiesSpec.pre6 enc Try.prog Try.f7 Rows.dutyCopiesRow.domain false) (Rows.dutyCopiesSpec.post enc Try.prog Try.f7 false true false false) := by
  refine law_lifted os started (by kernel_rfl) Try.func7
    (ChangeSpec.witness6 (enc := enc) (C := Try.checked) false ⟨#[], #[.int .i64 0, .slice none 0 0, .slice none 0 0], []⟩ 8 (by kernel_rfl) (by kernel_rfl) (by kernel_rfl) (by kernel_rfl))
    (by kernel_rfl) rfl rfl ?_ ?_
  · intro vs ds W p hA
    rw [Try.params7] at hA
    obtain ⟨v0, vs0, d0, ds0, p0, q0, rfl, rfl, rfl, h0, r0⟩ := trodAll_cons hA
    obtain ⟨v1, vs1, d1, ds1, p1, q1, rfl, rfl, rfl, h1, r1⟩ := trodAll_cons r0
    obtain ⟨v2, vs2, d2, ds2, p2, q2, rfl, rfl, rfl, h2, r2⟩ := trodAll_cons r1
    obtain ⟨rfl, rfl, rfl⟩ := trodAll_nil r2
    rfl
  · intro W base args ds p hval hA
    rw [Try.params7] at hA hval
    obtain ⟨v0, vs0, d0, ds0, p0, q0, hargs, rfl, rfl, h0, r0⟩ := trodAll_cons hA
    obtain ⟨v1, vs1, d1, ds1, p1, q1, rfl, rfl, rfl, h1, r1⟩ := trodAll_cons r0
    obtain ⟨v2, vs2, d2, ds2, p2, q2, rfl, rfl, rfl, h2, r2⟩ := trodAll_cons r1
    obtain ⟨rfl, rfl, rfl⟩ := trodAll_nil r2
    obtain rfl : args = #[v0, v1, v2] := by cases args; simp_all
    obtain ⟨a0, rfl, rfl, rfl, w0⟩ := open_int Try.underlying2 (hval 0 2 v0 rfl rfl) h0
    obtain ⟨l1, hs1, hf1⟩ := open_ops45 (hval 1 37 v1 rfl rfl) h1
    obtain ⟨l2, hs2, hf2⟩ := open_ops45 (hval 2 37 v2 rfl rfl) h2
    exact walk W a0 w0 l1 v1 hs1 hf1 l2 v2 hs2 hf2

theorem over : Rows.dutyCopiesRow.holds Try.pinned (OpenSpec.ofChange Rows.dutyCopiesSpec) :=
  OpenClaim.holds_of_wide 7 Try.f7 rfl rfl rfl rfl rfl rfl rfl ⟨rfl, rfl, rfl, rfl, rfl⟩ rfl rfl rfl rfl rfl (by kernel_rfl) Try.func7 (by kernel_rfl)
    (of_decide_eq_true (by kernel_rfl)) (by unfold Func.isWrapper; rw [if_neg (by decide +kernel)]; exact ⟨rfl, rfl⟩)
    (fun os started H enc _ => lifted os started H enc)

/-- The statement. -/
theorem proved : Rows.DutyCopiesSaid := over
#print axioms proved
end Go.Proofs.Ytehlhfcaajhhaaa.dutyCopies
