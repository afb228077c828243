/- Each box's history, cut behind any of its hand-overs, is a chain by itself in which nothing is refused, and tells who had the box then; for every row, box and cut. No condition. -/
import Derived.Test.YtmjblefjaccocaaApart17
namespace Go.Proofs.Ytmjblefjaccocaa.Sc
open Go Go.RowKit Go.ChangeShapes Go.WideShapes Go.ChangeAt

/-- Each step is right. -/
def GoodD (D : List Hd) : Prop := ∀ (k : Nat) (h : k < D.length), stepE (D.take k) D[k] = 0
theorem good_snoc {D : List Hd} {h : Hd} (hD : GoodD D) (he : stepE D h = 0) : GoodD (D ++ [h]) := by
  intro k hk
  by_cases hlt : k < D.length
  · rw [List.take_append_of_le_length (by omega), List.getElem_append_left hlt]
    exact hD k hlt
  · have : k = D.length := by simp at hk; omega
    subst this
    simpa using he
theorem good_take {D : List Hd} (hD : GoodD D) (n : Nat) : GoodD (D.take n) := by
  intro k hk
  rw [List.take_take, List.getElem_take, Nat.min_eq_left (by simp at hk; omega)]
  exact hD k (by simp at hk; omega)
theorem doneOf_good : ∀ (n : Nat) (l : List Hd), l.length = n → GoodD (doneOf l) := by
  intro n
  induction n with
  | zero =>
    intro l hl
    obtain rfl : l = [] := List.length_eq_zero_iff.1 hl
    intro k hk
    simp [doneOf] at hk
  | succ n ih =>
    intro l hl
    rcases List.eq_nil_or_concat l with rfl | ⟨L, h, rfl⟩
    · simp at hl
    · rw [List.concat_eq_append] at *
      have ih := ih L (by simpa using hl)
      rw [doneOf_snoc, doneB]
      split
      · exact good_snoc ih ‹_›
      · exact ih
theorem checkFrom_good : ∀ (rest done : List Hd) (i : Nat), GoodD (done ++ rest) → checkFrom done rest i = (i + rest.length, 0)
  | [], _, _, _ => rfl
  | h :: r, done, i, hg => by
    have h0 : stepE done h = 0 := by
      have := hg done.length (by simp)
      simpa using this
    rw [checkFrom, if_pos h0, checkFrom_good r (done ++ [h]) (i + 1) (by simpa using hg)]
    simp only [List.length_cons, Prod.mk.injEq, and_true]
    omega
theorem doneOf_same : ∀ (rest done : List Hd), GoodD (done ++ rest) → rest.foldl (fun done h => doneB (stepE done h) done h) done = done ++ rest
  | [], done, _ => by simp
  | h :: r, done, hg => by
    have h0 : stepE done h = 0 := by
      have := hg done.length (by simp)
      simpa using this
    rw [List.foldl_cons, doneB, if_pos h0, doneOf_same r (done ++ [h]) (by simpa using hg)]
    simp
theorem step_day {done : List Hd} {h : Hd} (he : stepE done h = 0) : h.day ≤ 1048576 := by
  have : dayOk h.day = true := by
    cases hd : dayOk h.day with
    | true => rfl
    | false =>
      unfold stepE beginE handE at he
      rw [hd] at he
      split at he <;> split at he <;> simp at he
  simp only [dayOk, Bool.and_eq_true, decide_eq_true_eq] at this
  exact this.2
theorem asOf_last (L : List Hd) (x : Hd) {d : Int} (h : x.day ≤ d) : asOf (L ++ [x]) d = (x.to, x.place, true) := by
  rw [asOf, List.foldl_append]
  simp [h]
theorem own_cap {w : World} {B n : Nat} {e : TypeId} {sz : Nat} {a : Option Addr} {c : Nat} {xs : List Value} (h : w.ownsRow B e sz (.slice a n c) n xs) : n ≤ c := by
  rcases h.2 with ⟨h1, h2⟩ | ⟨g, cap, cur, h1, _, _, h2, _⟩
  · omega
  · simp only [Value.slice.injEq] at h1
    obtain ⟨_, _, rfl⟩ := h1
    exact h2
theorem Sl.prefix {w : World} {sz : Nat} {a : Option Addr} {c n : Nat} {xs : List (List Value)} (h : Sl w sz (.slice a xs.length c) xs) (hn : n ≤ xs.length) : Sl w sz (.slice a n c) (xs.take n) := by
  rcases h with ⟨h1, a', c', h2, h3⟩ | ⟨b, off, cap, h1, hlt, h2, h3, hc⟩
  · subst h1
    simp only [List.length_nil] at hn h2
    obtain rfl : n = 0 := by omega
    exact .inl ⟨rfl, a', c', h2, h3⟩
  · simp only [Value.slice.injEq] at h1
    obtain ⟨rfl, -, rfl⟩ := h1
    exact .inr ⟨b, off, c, by rw [List.length_take, Nat.min_eq_left hn], hlt, by simp; omega, h3, fun i r hr j u hu => hc i r (by
      rw [List.getElem?_take] at hr
      split at hr
      · exact hr
      · cases hr) j u hu⟩
theorem slice_rows {w : World} {a : Option Addr} {c n : Nat} {l : List Hd} (h : Sl w 5 (.slice a l.length c) (l.map Hd.row)) (hn : n ≤ l.length) : Sl w 5 (.slice a n c) ((l.take n).map Hd.row) := by
  rw [List.map_take]
  exact Sl.prefix (xs := l.map Hd.row) (by simpa using h) (by simpa using hn)
end Go.Proofs.Ytmjblefjaccocaa.Sc
namespace Go.Proofs.Ytmjblefjaccocaa.custodyHistories
open Go Go.RowKit Go.ChangeShapes Go.WideShapes Go.ChangeAt Go.ChangeMaps Sc

set_option maxRecDepth 8000 in
set_option maxHeartbeats 2000000 in
theorem walk (w : World) (l : List Hd) (v : Value) (hs : Sl w 5 v (l.map Hd.row)) (hf : ∀ h ∈ l, h.fit) (box : ByteArray) (_ : box.size ≤ maxLen) (cut : Int) (hcw : (Lit.int .u8 cut).wf = true) :
    Calls Try.prog 5 #[v, .string box, .int .u8 cut] w (RetB w true) := by
  have HS := Lib.hid hs
  have HF := Lib.hid hf
  have hcut : 0 ≤ cut ∧ cut ≤ 255 := by
    simp only [Lit.wf, Bool.and_eq_true, decide_eq_true_eq] at hcw
    exact hcw
  obtain ⟨hc0, hc1⟩ := hcut
  clear hs hf hcw
  go_enter Try.func5, Try.ntmps5
  go_wp2_with fail
  refine (long_any l v w HS.out).mono ?_
  rintro e w1 ⟨b, rfl, hb, hb1⟩
  have HB1 := Lib.hid hb1
  clear hb1
  by_cases hgo : b = false ∧ box.size ≤ 60
  · obtain ⟨rfl, h60⟩ := hgo
    have HN : Hid (l.length ≤ 60) := Lib.hid (hb rfl)
    have HN4 : Hid (l.length ≤ 4000) := Lib.hid (by have := HN.out; omega)
    have t1 : decide ((60 : Int) < (box.size : Int)) = false := decide_eq_false (by omega)
    have HDL : Hid ((doneOf l).length ≤ 4000) := Lib.hid (by have := doneOf_len l; have := HN.out; omega)
    obtain ⟨own, hown⟩ : ∃ own, own = ownOf (doneOf l) box := ⟨_, rfl⟩
    have hgood : GoodD own := by
      rw [hown, doneOf_own box l.length l rfl (by have := HN.out; omega)]
      exact doneOf_good _ _ rfl
    have hol : own.length ≤ 60 := by rw [hown]; have h1 := ownOf_len (doneOf l) box; have h2 := doneOf_len l; have := HN.out; omega
    obtain ⟨n, hn⟩ : ∃ n, n = min cut.toNat own.length := ⟨_, rfl⟩
    have hnl : n ≤ own.length := by omega
    have HMIN : Hid (Any.imin cut (own.length : Int) = (n : Int)) := Lib.hid (by unfold Any.imin; split <;> omega)
    have HOW : Hid (ownOf (doneOf l) box = own) := Lib.hid hown.symm
    have HGD := Lib.hid hgood
    have HNL := Lib.hid hnl
    have hn60 : (n : Int) ≤ 60 := by omega
    have HP : Hid ((own.take n).length = n ∧ n ≤ 4000) := Lib.hid ⟨by simp; omega, by omega⟩
    have HCK : Hid (checkOf (own.take n) = (n, 0)) := Lib.hid (by rw [checkOf, checkFrom_good _ [] 0 (by simpa using good_take hgood n)]; simp; omega)
    have HDN : Hid (doneOf (own.take n) = own.take n) := Lib.hid (by have := doneOf_same (own.take n) [] (by simpa using good_take hgood n); simpa [doneOf] using this)
    have HBX : Hid (ownOf (own.take n) box = own.take n) := Lib.hid (by
      rw [ownOf, List.filter_eq_self]
      intro h hh
      have h1 := List.mem_of_mem_take hh
      rw [hown] at h1
      exact (List.mem_filter.1 h1).2)
    have HFO : Hid (∀ h ∈ own.take n, h.fit) := Lib.hid (by
      intro h hh
      have h1 := List.mem_of_mem_take hh
      rw [hown] at h1
      exact HF.out h (mem_doneOf (List.mem_filter.1 h1).1))
    clear hb h60 hown hgood hnl hn
    by_cases hz : n = 0
    · have t2 : ((n : Int) == 0) = true := by simp [hz]
      have t3 : ((n : Int) != n) = false := by simp
      clear hz
      go_wp2_with (first
        | ((with_reducible refine (play_any l v _ (HS.out.below HB1.out (Nat.le_refl _)) HN4.out HF.out).mono ?_); rintro e w2 ⟨p2, v2, F2, rfl, hb2, hc2, -, -, -⟩; have HB2 := Lib.hid (HB1.out.trans (hb2.mono HB1.out.size)); obtain ⟨bp2, rfl⟩ : ∃ bp, p2 = .pointer (some ⟨bp, 0, none⟩) := (by obtain ⟨bp, bm, l, h, _⟩ := hc2; exact ⟨bp, h⟩); have HC2 := Lib.hid hc2; clear hb2 hc2)
        | ((with_reducible refine (history_any box (.pointer (some ⟨bp2, 0, none⟩)) (doneOf l) F2 _ HC2.out HDL.out).mono ?_); rintro e w3 ⟨v3, rfl, hown3, hb3⟩; rw [HOW.out] at hown3; obtain ⟨a3, c3, rfl⟩ := own_shape hown3; have HB3 := Lib.hid (HB2.out.trans (hb3.mono HB2.out.size)); have HO3 := Lib.hid (own_hands hown3 rfl); have hcap : n ≤ c3 := Nat.le_trans HNL.out (own_cap hown3); have qs : ∀ w, (Instr.slice 22 (.slice a3 own.length c3) none (some (.int .i64 n)) none).run Try.prog w = .ok (.slice a3 n c3) w := fun w => (by obtain ⟨i0, hi, _⟩ := info_parts infoHd; exact Any.run_slice_to Try.underlying22 hi a3 own.length c3 n hcap); have HSP := Lib.hid (slice_rows HO3.out HNL.out); clear hown3 hb3 hcap)
        | ((with_reducible refine Any.wpl_min_is (k := .i64) ?_ HMIN.out ?_ ?_ ?_); rfl; rfl; rfl)
        | ((with_reducible refine (check_any (own.take n) _ _ HSP.out (by rw [HP.out.1]; exact HP.out.2)).mono ?_); rintro e w4 ⟨rfl, hb4⟩; rw [HCK.out]; have HB4 := Lib.hid (HB3.out.trans (hb4.mono HB3.out.size)); have HSP4 := Lib.hid (HSP.out.below hb4 (Nat.le_refl _)); have HO4 := Lib.hid (HO3.out.below hb4 (Nat.le_refl _)); clear hb4)
        | ((with_reducible refine (awake_any _).mono ?_); rintro e wA ⟨rfl, hbA⟩; have HBA := Lib.hid (HB4.out.trans (hbA.mono HB4.out.size)); clear hbA)
        | fail)
      go_ret
      exact retB rfl HBA.out
    · have t2 : ((n : Int) == 0) = false := by simp; omega
      have t3 : ((n : Int) != n) = false := by simp
      obtain ⟨m, hm⟩ : ∃ m, n = m + 1 := ⟨n - 1, by omega⟩
      obtain ⟨x, hx⟩ : ∃ x, own[m]? = some x := ⟨_, List.getElem?_eq_getElem (by have := HNL.out; omega)⟩
      have HTK : Hid (own.take n = own.take m ++ [x]) := Lib.hid (by
        obtain ⟨h1, h2⟩ := List.getElem?_eq_some_iff.1 hx
        rw [hm, List.take_succ_eq_append_getElem h1, h2])
      have HLS : Hid (asOf (ownOf (doneOf (own.take n)) box) 1048576 = (x.to, x.place, true)) := Lib.hid (by
        rw [HDN.out, HBX.out, HTK.out]
        refine asOf_last _ _ (step_day (done := own.take m) ?_)
        obtain ⟨h1, h2⟩ := List.getElem?_eq_some_iff.1 hx
        rw [← h2]
        exact HGD.out m h1)
      have HX := Lib.hid hx
      have HM := Lib.hid hm
      have hm60 : (m : Int) ≤ 60 := by omega
      have HPF : Hid ((doneOf (own.take n)).length ≤ 4000) := Lib.hid (by rw [HDN.out, HP.out.1]; exact HP.out.2)
      have hsub : (n : Int) - 1 = m := by omega
      have hmn : m < own.length := by have := HNL.out; omega
      clear hz hx hm
      go_wp2_with (first
        | ((with_reducible refine (play_any l v _ (HS.out.below HB1.out (Nat.le_refl _)) HN4.out HF.out).mono ?_); rintro e w2 ⟨p2, v2, F2, rfl, hb2, hc2, -, -, -⟩; have HB2 := Lib.hid (HB1.out.trans (hb2.mono HB1.out.size)); obtain ⟨bp2, rfl⟩ : ∃ bp, p2 = .pointer (some ⟨bp, 0, none⟩) := (by obtain ⟨bp, bm, l, h, _⟩ := hc2; exact ⟨bp, h⟩); have HC2 := Lib.hid hc2; clear hb2 hc2)
        | ((with_reducible refine (history_any box (.pointer (some ⟨bp2, 0, none⟩)) (doneOf l) F2 _ HC2.out HDL.out).mono ?_); rintro e w3 ⟨v3, rfl, hown3, hb3⟩; rw [HOW.out] at hown3; obtain ⟨a3, c3, rfl⟩ := own_shape hown3; have HB3 := Lib.hid (HB2.out.trans (hb3.mono HB2.out.size)); have HO3 := Lib.hid (own_hands hown3 rfl); have hcap : n ≤ c3 := Nat.le_trans HNL.out (own_cap hown3); have qs : ∀ w, (Instr.slice 22 (.slice a3 own.length c3) none (some (.int .i64 n)) none).run Try.prog w = .ok (.slice a3 n c3) w := fun w => (by obtain ⟨i0, hi, _⟩ := info_parts infoHd; exact Any.run_slice_to Try.underlying22 hi a3 own.length c3 n hcap); have HSP := Lib.hid (slice_rows HO3.out HNL.out); clear hown3 hb3 hcap)
        | ((with_reducible refine Any.wpl_min_is (k := .i64) ?_ HMIN.out ?_ ?_ ?_); rfl; rfl; rfl)
        | ((with_reducible refine (check_any (own.take n) _ _ HSP.out (by rw [HP.out.1]; exact HP.out.2)).mono ?_); rintro e w4 ⟨rfl, hb4⟩; rw [HCK.out]; have HB4 := Lib.hid (HB3.out.trans (hb4.mono HB3.out.size)); have HSP4 := Lib.hid (HSP.out.below hb4 (Nat.le_refl _)); have HO4 := Lib.hid (HO3.out.below hb4 (Nat.le_refl _)); clear hb4)
        | ((with_reducible refine (play_any (own.take n) _ _ HSP4.out (by rw [HP.out.1]; exact HP.out.2) HFO.out).mono ?_); rintro e w5 ⟨p5, v5, F5, rfl, hb5, hc5, -, -, -⟩; have HB5 := Lib.hid (HB4.out.trans (hb5.mono HB4.out.size)); obtain ⟨bp5, rfl⟩ : ∃ bp, p5 = .pointer (some ⟨bp, 0, none⟩) := (by obtain ⟨bp, bm, l, h, _⟩ := hc5; exact ⟨bp, h⟩); have HC5 := Lib.hid hc5; have HO5 := Lib.hid (HO4.out.below hb5 (Nat.le_refl _)); clear hb5 hc5)
        | ((with_reducible refine (now_any box (.pointer (some ⟨bp5, 0, none⟩)) (doneOf (own.take n)) F5 _ HC5.out HPF.out).mono ?_); rintro e w6 ⟨rfl, hb6⟩; rw [HLS.out]; have HB6 := Lib.hid (HB5.out.trans (hb6.mono HB5.out.size)); obtain ⟨b3, off3, rfl, -, hlt3, hc3⟩ := (HO5.out.below hb6 (Nat.le_refl _)).at (i := m) (by have := HNL.out; have := HM.out; simp; omega); have hr3 := hc3 m x.row (by rw [List.getElem?_map, HX.out]; rfl); clear hc3 hb6; have q0 : w6.cell? ⟨b3, off3 + m * 5, none⟩ = some (.string x.box) := hr3 0 _ rfl; have q1 : w6.cell? ⟨b3, off3 + m * 5 + 1, none⟩ = some (.string x.frm) := hr3 1 _ rfl; have q2 : w6.cell? ⟨b3, off3 + m * 5 + 2, none⟩ = some (.string x.to) := hr3 2 _ rfl; have q3 : w6.cell? ⟨b3, off3 + m * 5 + 3, none⟩ = some (.string x.place) := hr3 3 _ rfl; have q4 : w6.cell? ⟨b3, off3 + m * 5 + 4, none⟩ = some (.int .i64 x.day) := hr3 4 _ rfl; clear hr3)
        | ((with_reducible refine (awake_any _).mono ?_); rintro e wA ⟨rfl, hbA⟩; have HBA := Lib.hid ((HB6.out.trans ((one_below w6 (.cells #[.string x.box, .string x.frm, .string x.to, .string x.place, .int .i64 x.day] 41)).mono HB6.out.size)).trans (hbA.mono (by have := HB6.out.size; simp; omega))); clear hbA)
        | fail)
      go_ret
      exact retB rfl HBA.out
  · have HG := Lib.hid hgo
    clear hb hgo
    cases b with
    | true =>
      go_wp2_with (first | ((with_reducible refine (awake_any _).mono ?_); rintro e w2 ⟨rfl, hb2⟩; have HB2 := Lib.hid (HB1.out.trans (hb2.mono HB1.out.size)); clear hb2) | fail)
      go_ret
      exact retB rfl HB2.out
    | false =>
      have t1 : decide ((60 : Int) < (box.size : Int)) = true := decide_eq_true (by have := HG.out; simp at this; omega)
      go_wp2_with (first | ((with_reducible refine (awake_any _).mono ?_); rintro e w2 ⟨rfl, hb2⟩; have HB2 := Lib.hid (HB1.out.trans (hb2.mono HB1.out.size)); clear hb2) | fail)
      go_ret
      exact retB rfl HB2.out

theorem lifted (os : Os) (started : os.Started) (H : Type) (enc : TypeId × Value → H) :
    ReturnsInHanded {} Try.checked os 5 .any (Rows.custodyHistoriesSpec.pre6 enc Try.prog Try.f5 Rows.custodyHistoriesRow.domain false) (Rows.custodyHistoriesSpec.post enc Try.prog Try.f5 false true false false) := by
  refine law_lifted os started (by kernel_rfl) Try.func5
    (ChangeSpec.witness6 (enc := enc) (C := Try.checked) false ⟨#[], #[.slice none 0 0, .string ⟨#[]⟩, .int .u8 0], []⟩ 8 (by kernel_rfl) (by kernel_rfl) (by kernel_rfl) (by kernel_rfl))
    (by kernel_rfl) rfl rfl ?_ ?_
  · intro vs ds W p hA
    rw [Try.params5] at hA
    obtain ⟨v0, vs0, d0, ds0, p0, q0, rfl, rfl, rfl, h0, r0⟩ := trodAll_cons hA
    obtain ⟨v1, vs1, d1, ds1, p1, q1, rfl, rfl, rfl, h1, r1⟩ := trodAll_cons r0
    obtain ⟨v2, vs2, d2, ds2, p2, q2, rfl, rfl, rfl, h2, r2⟩ := trodAll_cons r1
    obtain ⟨rfl, rfl, rfl⟩ := trodAll_nil r2
    rfl
  · intro W base args ds p hval hA
    rw [Try.params5] at hA hval
    obtain ⟨v0, vs0, d0, ds0, p0, q0, hargs, rfl, rfl, h0, r0⟩ := trodAll_cons hA
    obtain ⟨v1, vs1, d1, ds1, p1, q1, rfl, rfl, rfl, h1, r1⟩ := trodAll_cons r0
    obtain ⟨v2, vs2, d2, ds2, p2, q2, rfl, rfl, rfl, h2, r2⟩ := trodAll_cons r1
    obtain ⟨rfl, rfl, rfl⟩ := trodAll_nil r2
    obtain rfl : args = #[v0, v1, v2] := by cases args; simp_all
    obtain ⟨l0, hs0, hf0⟩ := open_hands (hval 0 22 v0 rfl rfl) h0
    obtain ⟨a1, rfl, rfl, rfl, w1⟩ := open_string Try.underlying9 (hval 1 9 v1 rfl rfl) h1
    obtain ⟨a2, rfl, rfl, rfl, w2⟩ := open_int Try.underlying5 (hval 2 5 v2 rfl rfl) h2
    exact walk W l0 v0 hs0 hf0 a1 w1 a2 w2

theorem over : Rows.custodyHistoriesRow.holds Try.pinned (OpenSpec.ofChange Rows.custodyHistoriesSpec) :=
  OpenClaim.holds_of_wide 5 Try.f5 rfl rfl rfl rfl rfl rfl rfl ⟨rfl, rfl, rfl, rfl, rfl⟩ rfl rfl rfl rfl rfl (by kernel_rfl) Try.func5 (by kernel_rfl)
    (of_decide_eq_true (by kernel_rfl)) (by unfold Func.isWrapper; rw [if_neg (by decide +kernel)]; exact ⟨rfl, rfl⟩)
    (fun os started H enc _ => lifted os started H enc)

/-- The statement. -/
theorem proved : Rows.CustodyHistoriesSaid := over
#print axioms proved
end Go.Proofs.Ytmjblefjaccocaa.custodyHistories
