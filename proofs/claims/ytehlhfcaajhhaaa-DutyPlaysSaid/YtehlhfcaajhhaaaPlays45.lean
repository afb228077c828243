/- Behind any calls of a bond each tells what the document says; what is used, each box's state, and what is due as of any day, is the document's. No condition. -/
import Derived.Test.YtehlhfcaajhhaaaPlay45
import Derived.Test.YtehlhfcaajhhaaaAwake45
namespace Go.Proofs.Ytehlhfcaajhhaaa.Sc
open Go Go.RowKit
theorem box_cells (l : List Bx) (j : Nat) (hj : j < l.length) (a : Option Addr) (c : Nat) (W : World) (hs : Sl W 4 (.slice a l.length c) (l.map Bx.row)) :
    ∃ b off, a = some ⟨b, off, none⟩ ∧ W.cell? ⟨b, off + j * 4 + 1, none⟩ = some (.int .i64 l[j].duty) ∧ W.cell? ⟨b, off + j * 4 + 2, none⟩ = some (.int .i64 l[j].day) ∧ W.cell? ⟨b, off + j * 4 + 3, none⟩ = some (.int .i64 l[j].st) := by
  obtain ⟨b, off, rfl, -, hb, hc⟩ := hs.at (i := j) (by simpa using hj)
  have hr : (l.map Bx.row)[j]? = some l[j].row := by rw [List.getElem?_map, List.getElem?_eq_getElem hj]; rfl
  exact ⟨b, off, rfl, hc j _ hr 1 _ rfl, hc j _ hr 2 _ rfl, hc j _ hr 3 _ rfl⟩
end Go.Proofs.Ytehlhfcaajhhaaa.Sc
namespace Go.Proofs.Ytehlhfcaajhhaaa.dutyPlays
open Go.ChangeShapes Go.WideShapes Go.ChangeAt Go.RowKit Go Sc
set_option maxRecDepth 100000

set_option maxHeartbeats 8000000 in
theorem walk (w : World) (limit : Int) (_ : (Lit.int .i64 limit).wf = true) (ops : List O5) (v : Value) (hs : Sl w 5 v (ops.map O5.row)) (hf : ∀ o ∈ ops, o.fit) (box : ByteArray) (_ : box.size ≤ maxLen) (day : Int) (_ : (Lit.int .i64 day).wf = true) :
    Calls Try.prog 8 #[.int .i64 limit, v, .string box, .int .i64 day] w (RetB w true) := by
  have HAW := Lib.hid (fun W => awake_any W)
  have HLO := Lib.hid (long_any ops v w hs)
  cases hlr : longR ops
  · rw [hlr] at HLO
    have hol : ops.length ≤ 60 := by
      simp only [longR, Bool.or_eq_false_iff, decide_eq_false_iff_not] at hlr
      omega
    have HPL := Lib.hid (fun W (hW : Below w.heap.size w W) => play_any limit ops v W (hs.below hW (Nat.le_refl _)) (by omega) hf)
    have hkl : (playL (limOf limit) ops).length ≤ 60 := Nat.le_trans (playL_len _ _) hol
    generalize playL (limOf limit) ops = lk at *
    clear hlr hs hf hol
    by_cases h60 : (60 : Int) < (box.size : Int)
    · have t60 : decide ((60 : Int) < (box.size : Int)) = true := decide_eq_true h60
      clear h60
      go_enter Try.func8, Try.ntmps8
      go_wp2_with (first
        | ((with_reducible refine HLO.out.mono ?_); rintro e w1 ⟨rfl, hb1⟩; have HB := Lib.hid hb1; clear hb1)
        | ((with_reducible refine (HAW.out _).mono ?_); rintro e w9 ⟨rfl, hb9⟩; have HB := Lib.hid (HB.out.trans (hb9.mono HB.out.size)); clear hb9)
        | fail)
      go_ret
      exact ⟨rfl, HB.out⟩
    · have t60 : decide ((60 : Int) < (box.size : Int)) = false := decide_eq_false h60
      clear h60
      have HDU := Lib.hid (fun bp bm W (h : Bst W bp bm (limOf limit) lk) => due_any lk (limOf limit) bp bm day W h (by omega))
      have HRD := Lib.hid (fun u W (h : Sl W 4 u (lk.map Bx.row)) => refDue_any lk day u W h (by omega))
      have HSTA := Lib.hid (fun bp bm W (h : Bst W bp bm (limOf limit) lk) => state_any lk (limOf limit) bp bm box W h)
      have HAT := Lib.hid (fun u W (h : Sl W 4 u (lk.map Bx.row)) => bAt_any lk box u W h)
      obtain ⟨S, hS⟩ : ∃ S, S = stateOf lk box := ⟨_, rfl⟩
      obtain ⟨m, hm⟩ : ∃ m, m = bAt box 0 lk := ⟨_, rfl⟩
      rw [← hS] at HSTA
      rw [← hm] at HAT
      rcases bAt_find box lk 0 with ⟨h1, h2⟩ | ⟨j, hj, h1, h2⟩
      · have tm : decide (0 ≤ m) = false := decide_eq_false (by omega)
        have tS : (S == -1) = true := by rw [hS, stateOf, h2]; rfl
        clear hS hm h1 h2
        go_enter Try.func8, Try.ntmps8
        go_wp2_with (first
          | ((with_reducible refine HLO.out.mono ?_); rintro e w1 ⟨rfl, hb1⟩; have HB := Lib.hid hb1; clear hb1)
          | ((with_reducible refine (HPL.out _ HB.out).mono ?_); rintro e w2 ⟨bp, bm, vv, rfl, hs2, hv2, ho2, hp2, hb2⟩; have HBS := Lib.hid hs2; have HSX := Lib.hid hv2; have HOO := Lib.hid (ho2); have HPP := Lib.hid (And.intro (Nat.le_trans HB.out.size hp2.1) (Nat.le_trans HB.out.size hp2.2)); have HB := Lib.hid (HB.out.trans (hb2.mono HB.out.size)); clear hs2 hv2 ho2 hp2 hb2)
          | ((with_reducible refine (HAT.out _ _ HSX.out).mono ?_); rintro e w3 ⟨rfl, hb3⟩; have HB := Lib.hid (HB.out.trans (hb3.mono HB.out.size)); have HSX := Lib.hid (HSX.out.below hb3 (Nat.le_refl _)); have HBS := Lib.hid (HBS.out.below hb3); clear hb3)
          | ((with_reducible refine (HSTA.out _ _ _ HBS.out).mono ?_); rintro e w4 ⟨rfl, hb4⟩; have HB := Lib.hid (HB.out.trans (hb4.mono HB.out.size)); have HSX := Lib.hid (HSX.out.below hb4 (Nat.le_refl _)); have HBS := Lib.hid (HBS.out.below hb4); clear hb4)
          | ((with_reducible refine (HDU.out _ _ _ HBS.out).mono ?_); rintro e w5 ⟨v5, rfl, ht5, hb5⟩; have HT5 := Lib.hid ht5; have HB := Lib.hid (HB.out.trans (hb5.mono HB.out.size)); have HSX := Lib.hid (HSX.out.below hb5 (Nat.le_refl _)); have HBS := Lib.hid (HBS.out.below hb5); clear ht5 hb5)
          | ((with_reducible refine (HRD.out _ _ HSX.out).mono ?_); rintro e w6 ⟨v6, rfl, ht6, hb6⟩; have HT6 := Lib.hid ht6; have HT5 := Lib.hid (HT5.out.below hb6 (Nat.le_refl _)); have HB := Lib.hid (HB.out.trans (hb6.mono HB.out.size)); have HSX := Lib.hid (HSX.out.below hb6 (Nat.le_refl _)); have HBS := Lib.hid (HBS.out.below hb6); clear ht6 hb6)
          | ((with_reducible refine (refTexts_any _ _ _ _ _ HT5.out HT6.out).mono ?_); rintro e w7 ⟨rfl, hb7⟩; rw [decide_eq_true rfl]; have HB := Lib.hid (HB.out.trans (hb7.mono HB.out.size)); have HSX := Lib.hid (HSX.out.below hb7 (Nat.le_refl _)); have HBS := Lib.hid (HBS.out.below hb7); clear hb7)
          | ((with_reducible refine (HAW.out _).mono ?_); rintro e w9 ⟨rfl, hb9⟩; have HB := Lib.hid (HB.out.trans (hb9.mono HB.out.size)); clear hb9)
          | fail)
        go_ret
        exact ⟨rfl, HB.out⟩
      · obtain rfl : m = (j : Int) := by rw [hm, h1, Nat.zero_add]
        have tm : decide ((0 : Int) ≤ (j : Int)) = true := decide_eq_true (by omega)
        have tS : (S == lk[j].st) = true := by rw [hS, stateOf, h2]; simp
        have tj : ((j : Nat) : Int) < (lk.length : Int) := by omega
        have HCE := Lib.hid (fun a c W (h : Sl W 4 (.slice a lk.length c) (lk.map Bx.row)) => box_cells lk j hj a c W h)
        generalize lk[j].st = s0 at *
        clear hS h1 h2 hm
        go_enter Try.func8, Try.ntmps8
        go_wp2_with (first
          | ((with_reducible refine HLO.out.mono ?_); rintro e w1 ⟨rfl, hb1⟩; have HB := Lib.hid hb1; clear hb1)
          | ((with_reducible refine (HPL.out _ HB.out).mono ?_); rintro e w2 ⟨bp, bm, vv, rfl, hs2, hv2, ho2, hp2, hb2⟩; obtain ⟨va, vc, rfl⟩ : ∃ a c, vv = .slice a lk.length c := (by simpa using hv2.shape); have HBS := Lib.hid hs2; have HSX := Lib.hid hv2; have HOO := Lib.hid (ho2); have HPP := Lib.hid (And.intro (Nat.le_trans HB.out.size hp2.1) (Nat.le_trans HB.out.size hp2.2)); have HB := Lib.hid (HB.out.trans (hb2.mono HB.out.size)); clear hs2 hv2 ho2 hp2 hb2)
          | ((with_reducible refine (HAT.out _ _ HSX.out).mono ?_); rintro e w3 ⟨rfl, hb3⟩; have HB := Lib.hid (HB.out.trans (hb3.mono HB.out.size)); have HSX := Lib.hid (HSX.out.below hb3 (Nat.le_refl _)); have HBS := Lib.hid (HBS.out.below hb3); obtain ⟨b, off, rfl, q1, q2, q3⟩ := HCE.out _ _ _ HSX.out; clear hb3)
          | ((with_reducible refine (HSTA.out _ _ _ HBS.out).mono ?_); rintro e w4 ⟨rfl, hb4⟩; have HB := Lib.hid (HB.out.trans (hb4.mono HB.out.size)); have HSX := Lib.hid (HSX.out.below hb4 (Nat.le_refl _)); have HBS := Lib.hid (HBS.out.below hb4); clear hb4)
          | ((with_reducible refine (HDU.out _ _ _ HBS.out).mono ?_); rintro e w5 ⟨v5, rfl, ht5, hb5⟩; have HT5 := Lib.hid ht5; have HB := Lib.hid (HB.out.trans (hb5.mono HB.out.size)); have HSX := Lib.hid (HSX.out.below hb5 (Nat.le_refl _)); have HBS := Lib.hid (HBS.out.below hb5); clear ht5 hb5)
          | ((with_reducible refine (HRD.out _ _ HSX.out).mono ?_); rintro e w6 ⟨v6, rfl, ht6, hb6⟩; have HT6 := Lib.hid ht6; have HT5 := Lib.hid (HT5.out.below hb6 (Nat.le_refl _)); have HB := Lib.hid (HB.out.trans (hb6.mono HB.out.size)); have HSX := Lib.hid (HSX.out.below hb6 (Nat.le_refl _)); have HBS := Lib.hid (HBS.out.below hb6); clear ht6 hb6)
          | ((with_reducible refine (refTexts_any _ _ _ _ _ HT5.out HT6.out).mono ?_); rintro e w7 ⟨rfl, hb7⟩; rw [decide_eq_true rfl]; have HB := Lib.hid (HB.out.trans (hb7.mono HB.out.size)); have HSX := Lib.hid (HSX.out.below hb7 (Nat.le_refl _)); have HBS := Lib.hid (HBS.out.below hb7); clear hb7)
          | ((with_reducible refine (HAW.out _).mono ?_); rintro e w9 ⟨rfl, hb9⟩; have HB := Lib.hid (HB.out.trans (hb9.mono HB.out.size)); clear hb9)
          | fail)
        go_ret
        exact ⟨rfl, HB.out⟩
  · rw [hlr] at HLO
    clear hlr hs hf
    go_enter Try.func8, Try.ntmps8
    go_wp2_with (first
      | ((with_reducible refine HLO.out.mono ?_); rintro e w1 ⟨rfl, hb1⟩; have HB := Lib.hid hb1; clear hb1)
      | ((with_reducible refine (HAW.out _).mono ?_); rintro e w9 ⟨rfl, hb9⟩; have HB := Lib.hid (HB.out.trans (hb9.mono HB.out.size)); clear hb9)
      | fail)
    go_ret
    exact ⟨rfl, HB.out⟩

theorem lifted (os : Os) (started : os.Started) (H : Type) (enc : TypeId × Value → H) :
    ReturnsInHanded {} Try.checked os 8 .any (Rows.dutyPlaysSpec.pre6 enc Try.prog Try.f8 Rows.dutyPlaysRow.domain false) (Rows.dutyPlaysSpec.post enc Try.prog Try.f8 false true false false) := by
  refine law_lifted os started (by kernel_rfl) Try.func8
    (ChangeSpec.witness6 (enc := enc) (C := Try.checked) false ⟨#[], #[.int .i64 0, .slice none 0 0, .string ⟨#[]⟩, .int .i64 0], []⟩ 8 (by kernel_rfl) (by kernel_rfl) (by kernel_rfl) (by kernel_rfl))
    (by kernel_rfl) rfl rfl ?_ ?_
  · intro vs ds W p hA
    rw [Try.params8] at hA
    obtain ⟨v0, vs0, d0, ds0, p0, q0, rfl, rfl, rfl, h0, r0⟩ := trodAll_cons hA
    obtain ⟨v1, vs1, d1, ds1, p1, q1, rfl, rfl, rfl, h1, r1⟩ := trodAll_cons r0
    obtain ⟨v2, vs2, d2, ds2, p2, q2, rfl, rfl, rfl, h2, r2⟩ := trodAll_cons r1
    obtain ⟨v3, vs3, d3, ds3, p3, q3, rfl, rfl, rfl, h3, r3⟩ := trodAll_cons r2
    obtain ⟨rfl, rfl, rfl⟩ := trodAll_nil r3
    rfl
  · intro W base args ds p hval hA
    rw [Try.params8] at hA hval
    obtain ⟨v0, vs0, d0, ds0, p0, q0, hargs, rfl, rfl, h0, r0⟩ := trodAll_cons hA
    obtain ⟨v1, vs1, d1, ds1, p1, q1, rfl, rfl, rfl, h1, r1⟩ := trodAll_cons r0
    obtain ⟨v2, vs2, d2, ds2, p2, q2, rfl, rfl, rfl, h2, r2⟩ := trodAll_cons r1
    obtain ⟨v3, vs3, d3, ds3, p3, q3, rfl, rfl, rfl, h3, r3⟩ := trodAll_cons r2
    obtain ⟨rfl, rfl, rfl⟩ := trodAll_nil r3
    obtain rfl : args = #[v0, v1, v2, v3] := by cases args; simp_all
    obtain ⟨a0, rfl, rfl, rfl, w0⟩ := open_int Try.underlying2 (hval 0 2 v0 rfl rfl) h0
    obtain ⟨l1, hs1, hf1⟩ := open_ops45 (hval 1 37 v1 rfl rfl) h1
    obtain ⟨a2, rfl, rfl, rfl, w2⟩ := Go.ChangeMaps.open_string Try.underlying9 (hval 2 9 v2 rfl rfl) h2
    obtain ⟨a3, rfl, rfl, rfl, w3⟩ := open_int Try.underlying3 (hval 3 3 v3 rfl rfl) h3
    exact walk W a0 w0 l1 v1 hs1 hf1 a2 w2 a3 w3

theorem over : Rows.dutyPlaysRow.holds Try.pinned (OpenSpec.ofChange Rows.dutyPlaysSpec) :=
  OpenClaim.holds_of_wide 8 Try.f8 rfl rfl rfl rfl rfl rfl rfl ⟨rfl, rfl, rfl, rfl, rfl⟩ rfl rfl rfl rfl rfl (by kernel_rfl) Try.func8 (by kernel_rfl)
    (of_decide_eq_true (by kernel_rfl)) (by unfold Func.isWrapper; rw [if_neg (by decide +kernel)]; exact ⟨rfl, rfl⟩)
    (fun os started H enc _ => lifted os started H enc)

/-- The statement. -/
theorem proved : Rows.DutyPlaysSaid := over
#print axioms proved
end Go.Proofs.Ytehlhfcaajhhaaa.dutyPlays
