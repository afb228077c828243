/- The chapter's examples; whether rows are too many. -/
import Derived.Test.YtehlhfcaajhhaaaBond45
namespace Go.Proofs.Ytehlhfcaajhhaaa.Sc
open Go Go.RowKit Go.ChangeShapes Go.WideShapes Go.ChangeAt
set_option maxRecDepth 100000

def sNuts : ByteArray := ⟨#[110, 117, 116, 115]⟩
def sOslo : ByteArray := ⟨#[111, 115, 108, 111]⟩
def sRiga : ByteArray := ⟨#[114, 105, 103, 97]⟩
def awRows : List Rt := [⟨⟨#[110, 117, 116, 115]⟩, ⟨#[]⟩, 0, 1, 20⟩, ⟨⟨#[110, 117, 116, 115]⟩, ⟨#[111, 115, 108, 111]⟩, 0, 0, 1⟩]
def awBox : List Bx := [⟨⟨#[97]⟩, 6, 1, 0⟩]
theorem aw_code : tarCode awRows = 0 := by kernel_rfl
theorem aw_fit : ∀ r ∈ awRows, r.fit := by
  intro r hr
  simp only [awRows, List.mem_cons, List.not_mem_nil, or_false] at hr
  rcases hr with rfl | rfl
  · exact ⟨by decide, by decide, by decide, by decide⟩
  · exact ⟨by decide, by decide, by decide, by decide⟩
def NewT (w : World) (l : List Rt) (e : Ending) (w' : World) : Prop := ∃ bt bm, e = .returned (.tuple #[.pointer (some ⟨bt, 0, none⟩), .int .i64 0]) ∧ Taf w' bt bm l ∧ Below w.heap.size w w'
theorem new_taf {w w' : World} {l : List Rt} {e : Ending} (h : NewP w l e w') (h0 : tarCode l = 0) (hf : ∀ r ∈ l, r.fit) : NewT w l e w' := by
  obtain ⟨hb, ⟨h1, -⟩ | ⟨-, bt, bm, he, ht⟩⟩ := h
  · exact absurd h0 h1
  · obtain ⟨h2, h3⟩ := tar_nodup l [] h0 (by simp [tEnts])
    exact ⟨bt, bm, he, ⟨ht, by simpa using h2, h3, hf⟩, hb⟩
theorem aw_new (w : World) : Calls Try.prog 11 #[.slice (some ⟨w.heap.size, 0, none⟩) 2 2] (w.alloc (.cells #[.string ⟨#[110, 117, 116, 115]⟩, .string ⟨#[]⟩, .int .i64 0, .int .i64 1, .int .i64 20, .string ⟨#[110, 117, 116, 115]⟩, .string ⟨#[111, 115, 108, 111]⟩, .int .i64 0, .int .i64 0, .int .i64 1] 67)) (NewT w awRows) := by
  refine (tarNew_any awRows _ _ ?_ (by decide) aw_fit).mono fun e w' h => ?_
  · refine .inr ⟨w.heap.size, 0, 2, rfl, by simp, by decide, by decide, fun i r hr j u hu => ?_⟩
    rw [cell_new]
    match i, hr with
    | 0, hr => obtain rfl := (Option.some.inj hr).symm; match j, hu with
      | 0, hu => exact hu
      | 1, hu => exact hu
      | 2, hu => exact hu
      | 3, hu => exact hu
      | 4, hu => exact hu
    | 1, hr => obtain rfl := (Option.some.inj hr).symm; match j, hu with
      | 0, hu => exact hu
      | 1, hu => exact hu
      | 2, hu => exact hu
      | 3, hu => exact hu
      | 4, hu => exact hu
  · obtain ⟨bt, bm, he, ht, hb⟩ := new_taf h aw_code aw_fit
    exact ⟨bt, bm, he, ht, (one_below w _).trans (hb.mono (by simp))⟩
theorem aw_d1 (W : World) (bt bm : Nat) (h : Taf W bt bm awRows) : Calls Try.prog 13 #[.pointer (some ⟨bt, 0, none⟩), .string ⟨#[110, 117, 116, 115]⟩, .int .i64 101, .string ⟨#[114, 105, 103, 97]⟩] W (Ret W (.tuple #[.int .i64 6, .int .i64 0])) := by
  have := tarDuty_any awRows bt bm ⟨#[110, 117, 116, 115]⟩ ⟨#[114, 105, 103, 97]⟩ 101 W h (by decide) (by decide)
  rwa [show dutyP awRows ⟨#[110, 117, 116, 115]⟩ ⟨#[114, 105, 103, 97]⟩ 101 = (6, 0) by kernel_rfl] at this
theorem aw_d2 (W : World) (bt bm : Nat) (h : Taf W bt bm awRows) : Calls Try.prog 13 #[.pointer (some ⟨bt, 0, none⟩), .string ⟨#[110, 117, 116, 115]⟩, .int .i64 101, .string ⟨#[111, 115, 108, 111]⟩] W (Ret W (.tuple #[.int .i64 0, .int .i64 0])) := by
  have := tarDuty_any awRows bt bm ⟨#[110, 117, 116, 115]⟩ ⟨#[111, 115, 108, 111]⟩ 101 W h (by decide) (by decide)
  rwa [show dutyP awRows ⟨#[110, 117, 116, 115]⟩ ⟨#[111, 115, 108, 111]⟩ 101 = (0, 0) by kernel_rfl] at this
theorem aw_e1 (W : World) (bp bm : Nat) (h : Bst W bp bm 10 []) : Calls Try.prog 25 #[.pointer (some ⟨bp, 0, none⟩), .string ⟨#[97]⟩, .int .i64 6, .int .i64 1] W (BondP W bp bm 10 awBox (.int .i64 0)) := by
  have := enter_any [] 10 bp bm ⟨#[97]⟩ 6 1 W h (by decide)
  rwa [show enterC [] 10 ⟨#[97]⟩ 6 1 = 0 by kernel_rfl, show enterL [] 10 ⟨#[97]⟩ 6 1 = awBox by kernel_rfl] at this
theorem aw_e2 (W : World) (bp bm : Nat) (h : Bst W bp bm 10 awBox) : Calls Try.prog 25 #[.pointer (some ⟨bp, 0, none⟩), .string ⟨#[98]⟩, .int .i64 5, .int .i64 1] W (BondP W bp bm 10 awBox (.int .i64 10)) := by
  have := enter_any awBox 10 bp bm ⟨#[98]⟩ 5 1 W h (by decide)
  rwa [show enterC awBox 10 ⟨#[98]⟩ 5 1 = 10 by kernel_rfl, show enterL awBox 10 ⟨#[98]⟩ 5 1 = awBox by kernel_rfl] at this
set_option maxHeartbeats 4000000 in
theorem awake_any (w : World) : Calls Try.prog 10 #[] w (RetB w true) := by
  have HNW := Lib.hid (aw_new w)
  have HOP := Lib.hid (fun W => open_any 10 W)
  have HD1 := Lib.hid aw_d1
  have HD2 := Lib.hid aw_d2
  have HE1 := Lib.hid aw_e1
  have HE2 := Lib.hid aw_e2
  have HU : Hid (∀ W bp bm, Bst W bp bm 10 awBox → Calls Try.prog 19 #[.pointer (some ⟨bp, 0, none⟩)] W (Ret W (.int .i64 6))) := Lib.hid (fun W bp bm h => used_any awBox 10 bp bm W h)
  go_enter Try.func10, Try.ntmps10
  go_wp2_with (first
    | ((with_reducible refine (HNW.out).mono ?_); rintro e w1 ⟨bt, bm, rfl, ht, hb1⟩; have HT := Lib.hid ht; have HB := Lib.hid hb1; clear ht hb1)
    | ((with_reducible refine (HOP.out _).mono ?_); rintro e w2 ⟨bp, bq, rfl, h1, h2, hs, hb2⟩; have HT := Lib.hid (HT.out.below hb2 (Nat.le_refl _)); have HS : Hid (Bst w2 bp bq 10 []) := Lib.hid hs; have HP1 := Lib.hid (Nat.le_trans HB.out.size h1); have HP2 := Lib.hid (Nat.le_trans HB.out.size h2); have HB := Lib.hid (HB.out.trans (hb2.mono HB.out.size)); clear h1 h2 hs hb2)
    | ((with_reducible refine (HD1.out _ _ _ HT.out).mono ?_); rintro e w3 ⟨rfl, hb3⟩; have HT := Lib.hid (HT.out.below hb3 (Nat.le_refl _)); have HS := Lib.hid (HS.out.below hb3); have HB := Lib.hid (HB.out.trans (hb3.mono HB.out.size)); clear hb3)
    | ((with_reducible refine (HD2.out _ _ _ HT.out).mono ?_); rintro e w4 ⟨rfl, hb4⟩; have HS := Lib.hid (HS.out.below hb4); have HB := Lib.hid (HB.out.trans (hb4.mono HB.out.size)); clear hb4)
    | ((with_reducible refine (HE1.out _ _ _ HS.out).mono ?_); rintro e w5 ⟨rfl, hs, hk⟩; have HS := Lib.hid hs; have HB := Lib.hid (Keep.behind HB.out hk HB.out.size (fun k hlt e => by have := HP1.out; have := HP2.out; rcases e with rfl | rfl <;> omega)); clear hs hk)
    | ((with_reducible refine (HE2.out _ _ _ HS.out).mono ?_); rintro e w6 ⟨rfl, hs, hk⟩; have HS := Lib.hid hs; have HB := Lib.hid (Keep.behind HB.out hk HB.out.size (fun k hlt e => by have := HP1.out; have := HP2.out; rcases e with rfl | rfl <;> omega)); clear hs hk)
    | ((with_reducible refine (HU.out _ _ _ HS.out).mono ?_); rintro e w7 ⟨rfl, hb7⟩; have HB := Lib.hid (HB.out.trans (hb7.mono HB.out.size)); clear hb7)
    | fail)
  go_ret
  exact ⟨rfl, HB.out⟩
/-- Rows are more than may be asked about. -/
def wideR (l : List Rt) : Bool := (l.any fun r => decide (100 < wrap64 ((r.code.size : Int) + r.org.size))) || decide ((40 : Int) < (l.length : Int))
theorem any_next {l : List Rt} {k : Nat} (h : k < l.length) (f : Rt → Bool) : (l.drop k).any f = (f l[k] || (l.drop (k + 1)).any f) := by rw [List.drop_eq_getElem_cons h, List.any_cons]
set_option maxHeartbeats 4000000 in
theorem wide_any (l : List Rt) (v : Value) (w : World) (hs : Sl w 5 v (l.map Rt.row)) : Calls Try.prog 9 #[v] w (RetB w (wideR l)) := by
  have hll : l.length ≤ 9223372036854775807 := by have := hs.len_le; simp only [List.length_map, maxLen] at this; omega
  obtain ⟨a, c, rfl⟩ : ∃ a c, v = .slice a l.length c := by simpa using hs.shape
  have HS := Lib.hid hs
  obtain ⟨f, hf⟩ : ∃ f : Rt → Bool, f = fun r => decide (100 < wrap64 ((r.code.size : Int) + r.org.size)) := ⟨_, rfl⟩
  obtain ⟨B, hB⟩ : ∃ B, B = wideR l := ⟨_, rfl⟩
  rw [← hB]
  have HW : Hid (B = (l.any f || decide ((40 : Int) < (l.length : Int)))) := Lib.hid (by rw [hB, hf]; rfl)
  have HFF := Lib.hid hf
  clear hs hf hB
  go_enter Try.func9, Try.ntmps9
  go_wp2_with fail
  go_loopw [4, 7] (fun _ i wr => ∃ k : Nat, k ≤ l.length ∧ i = .int .i64 k ∧ l.any f = (l.drop k).any f ∧ Below w.heap.size w wr) (fun _ i _ => l.length - (intOf i).toNat)
  case atStart => exact ⟨0, Nat.zero_le _, rfl, by rw [List.drop_zero], Below.refl _ _⟩
  case round =>
    obtain ⟨k, hk, rfl, hrel, hbel⟩ := hrel
    have HBEL := Lib.hid hbel
    by_cases hlt : k < l.length
    · obtain ⟨b, off, rfl, -, hb, hc⟩ := HS.out.at (i := k) (by simpa using hlt)
      have d0 := (hbel.cell (p := ⟨b, off + k * 5, none⟩) hb).trans (hc k l[k].row (by simp [hlt]) 0 _ rfl)
      have d1 := (hbel.cell (p := ⟨b, off + k * 5 + 1, none⟩) hb).trans (hc k l[k].row (by simp [hlt]) 1 _ rfl)
      have d2 := (hbel.cell (p := ⟨b, off + k * 5 + 2, none⟩) hb).trans (hc k l[k].row (by simp [hlt]) 2 _ rfl)
      have d3 := (hbel.cell (p := ⟨b, off + k * 5 + 3, none⟩) hb).trans (hc k l[k].row (by simp [hlt]) 3 _ rfl)
      have d4 := (hbel.cell (p := ⟨b, off + k * 5 + 4, none⟩) hb).trans (hc k l[k].row (by simp [hlt]) 4 _ rfl)
      rw [any_next hlt] at hrel
      generalize l[k] = x at *
      obtain ⟨xc, xo, xd, xn, xe⟩ := x
      simp only at d0 d1 d2 d3 d4
      have hfx : f ⟨xc, xo, xd, xn, xe⟩ = decide (100 < wrap64 ((xc.size : Int) + xo.size)) := by rw [HFF.out]
      rw [hfx] at hrel
      clear hfx hc hbel
      cases ht : decide (100 < wrap64 ((xc.size : Int) + xo.size))
      · rw [ht, Bool.false_or] at hrel
        have HR := Lib.hid hrel
        clear hrel
        go_wp2_with fail
        go_roundw
        case rel => exact ⟨k + 1, by omega, by go_num, HR.out, HBEL.out.alloc HBEL.out.size _⟩
        case measure => (simp [intOf]) <;> omega
      · rw [ht, Bool.true_or] at hrel
        have HR := Lib.hid hrel
        clear hrel
        go_wp2_with fail
        go_ret
        exact retB (by rw [HW.out, HR.out]; rfl) (HBEL.out.alloc HBEL.out.size _)
    · have HR : Hid (l.any f = false) := Lib.hid (by rw [hrel, List.drop_of_length_le (by omega)]; rfl)
      clear hrel hbel
      go_wp2_with fail
      go_ret
      exact retB (by rw [HW.out, HR.out, Bool.false_or]) HBEL.out
theorem wf64 {n : Int} (h : (Lit.int .i64 n).wf = true) : -9223372036854775808 ≤ n ∧ n ≤ 9223372036854775807 := by
  simp only [Lit.wf, Bool.and_eq_true, decide_eq_true_eq] at h
  have h1 : IntKind.i64.min = -9223372036854775808 := by decide
  have h2 : IntKind.i64.max = 9223372036854775807 := by decide
  omega
/-- An argument that is rows of a tariff. -/
theorem open_rates {H : Type} {enc : TypeId × Value → H} {W : World} {base : Nat} {v : Value} {d : DataW H} {p : List MemPlace} (hv : Value.okWide Try.prog W .any base 22 v)
    (h : DataW.Trod enc Try.prog W 0 (fun _ => true) true 22 v d p) : ∃ l : List Rt, Sl W 5 v (l.map Rt.row) ∧ ∀ h ∈ l, h.fit := by
  obtain ⟨a, len, cap, rfl⟩ := okWide_slice Try.underlying22 hv
  obtain ⟨fuel, hf⟩ := h
  have ks : Try.prog.cellsOf 9 = 1 := by kernel_rfl
  have ki : Try.prog.cellsOf 3 = 1 := by kernel_rfl
  have kr : Try.prog.cellsOf 65 = 2 := by kernel_rfl
  have kk : Try.prog.cellsOf 67 = 5 := by kernel_rfl
  obtain ⟨rows, hs, _, hg⟩ := open_sl (sz := 5) (Good := fun cs => ∃ d : { d : Rt // d.fit }, cs = d.1.row) Try.underlying22 (by kernel_rfl) rfl hf (fun n cs y hy => by
    obtain ⟨xs, m, _, _, hl, hxl, hg⟩ := DataW.trod_struct Try.underlying67 hy
    rw [kk] at hl
    have hxl : xs.length = 4 := hxl
    match cs, hl, xs, hxl with
    | [c0, c1, c2, c3, c4], _, [x0, x1, x2, x3], _ =>
      have g0 := hg 0 _ rfl
      have g1 := hg 1 _ rfl
      have g2 := hg 2 _ rfl
      have g3 := hg 3 _ rfl
      simp [ks] at g0
      simp [ks] at g1
      simp [ki] at g2
      simp [kr] at g3
      obtain ⟨s0, e0, _, f0⟩ := DataW.trod_string Try.underlying9 g0
      obtain ⟨s1, e1, _, f1⟩ := DataW.trod_string Try.underlying9 g1
      obtain ⟨i2, e2, _, f2⟩ := DataW.trod_int Try.underlying3 g2
      obtain ⟨-, m', hg'⟩ := row_fields Try.underlying65 (by kernel_rfl) (by kernel_rfl) g3
      obtain ⟨z3, q3⟩ := hg' 0 _ rfl c3 rfl
      obtain ⟨z4, q4⟩ := hg' 1 _ rfl c4 rfl
      obtain ⟨i3, e3, _, f3⟩ := DataW.trod_int Try.underlying2 q3
      obtain ⟨i4, e4, _, f4⟩ := DataW.trod_int Try.underlying2 q4
      obtain rfl : c0 = .string s0 := by simpa using e0
      obtain rfl : c1 = .string s1 := by simpa using e1
      obtain rfl : c2 = .int .i64 i2 := by simpa using e2
      obtain rfl : c3 = .int .i64 i3 := by simpa using e3
      obtain rfl : c4 = .int .i64 i4 := by simpa using e4
      exact ⟨⟨⟨s0, s1, i2, i3, i4⟩, f0, f1, wf64 f3, wf64 f4⟩, rfl⟩) (by decide)
  obtain ⟨l, rfl⟩ := choose_map (f := fun d : { d : Rt // d.fit } => d.1.row) rows hg
  refine ⟨l.map Subtype.val, by simpa [List.map_map, Function.comp_def] using hs, fun h hh => ?_⟩
  obtain ⟨d, _, rfl⟩ := List.mem_map.1 hh
  exact d.2
end Go.Proofs.Ytehlhfcaajhhaaa.Sc
