/- What is done to other boxes changes nothing of a box, for every row of hand-overs, every box, every day. No condition. -/
import Derived.Test.YtmjblefjaccocaaPlay17
namespace Go.Proofs.Ytmjblefjaccocaa.Sc
open Go Go.RowKit Go.ChangeShapes Go.WideShapes Go.ChangeAt

theorem ownOf_own (l : List Hd) (box : ByteArray) : ownOf (ownOf l box) box = ownOf l box := by simp [ownOf]
theorem boxes_own (l : List Hd) : (boxesS l).length ≤ l.length := boxesS_len l
theorem beginE_few {there : Bool} {n m : Nat} (hn : n < 4096) (hm : m < 4096) (box who place : ByteArray) (d : Int) : beginE there n box who place d = beginE there m box who place d := by
  unfold beginE
  have h1 : ¬ 4096 ≤ n := by omega
  have h2 : ¬ 4096 ≤ m := by omega
  simp only [h1, h2]
/-- A step asks its own box alone. -/
theorem stepE_own {done done' : List Hd} {h : Hd} (ho : ownOf done' h.box = ownOf done h.box) (h1 : done.length < 4096) (h2 : done'.length < 4096) : stepE done' h = stepE done h := by
  unfold stepE
  split
  · have e : has done' h.box = has done h.box := by rw [has, has, ho]
    rw [e]
    exact beginE_few (by have := boxesS_len done'; omega) (by have := boxesS_len done; omega) _ _ _ _
  · rw [ho]
theorem doneB_own (e : Int) (done : List Hd) (h : Hd) (box : ByteArray) : ownOf (doneB e done h) box = if h.box = box then doneB e (ownOf done box) h else ownOf done box := by
  unfold doneB
  by_cases he : e = 0
  · simp only [he, if_true, ownOf_snoc]
    by_cases hb : h.box = box <;> simp [hb]
  · simp only [he, if_false, ite_self]
theorem mem_doneOf {h : Hd} {l : List Hd} : h ∈ doneOf l → h ∈ l := by
  have : ∀ (l done : List Hd), h ∈ l.foldl (fun done h => doneB (stepE done h) done h) done → h ∈ done ∨ h ∈ l := by
    intro l
    induction l with
    | nil => exact fun done hh => .inl hh
    | cons x r ih =>
      intro done hh
      rcases ih _ hh with h1 | h1
      · have h1 : h ∈ doneB (stepE done x) done x := h1
        by_cases he : stepE done x = 0
        · rw [doneB, if_pos he] at h1
          rcases List.mem_append.1 h1 with h2 | h2
          · exact .inl h2
          · exact .inr (by rw [List.mem_singleton.1 h2]; exact List.mem_cons_self)
        · rw [doneB, if_neg he] at h1
          exact .inl h1
      · exact .inr (List.mem_cons_of_mem _ h1)
  intro hh
  exact (this l [] hh).resolve_left (by simp)
/-- What is done of a box's hand-overs is the box's part of what is done. -/
theorem doneOf_own (box : ByteArray) : ∀ (n : Nat) (l : List Hd), l.length = n → n < 4096 → ownOf (doneOf l) box = doneOf (ownOf l box) := by
  intro n
  induction n with
  | zero =>
    intro l hl _
    obtain rfl : l = [] := List.length_eq_zero_iff.1 hl
    rfl
  | succ n ih =>
    intro l hl hn
    rcases List.eq_nil_or_concat l with rfl | ⟨L, h, rfl⟩
    · rfl
    · rw [List.concat_eq_append] at *
      have hL : L.length = n := by simpa using hl
      have ih := ih L hL (by omega)
      have h3 := doneOf_len L
      rw [doneOf_snoc, doneB_own, ownOf_snoc]
      by_cases hb : h.box = box
      · subst hb
        have h4 := ownOf_len (doneOf L) h.box
        rw [if_pos rfl, if_pos rfl, doneOf_snoc, ← ih]
        rw [stepE_own (h := h) (done := doneOf L) (done' := ownOf (doneOf L) h.box) (ownOf_own _ _) (by omega) (by omega)]
      · rw [if_neg hb, if_neg hb, List.append_nil, ih]
end Go.Proofs.Ytmjblefjaccocaa.Sc
namespace Go.Proofs.Ytmjblefjaccocaa.custodyApart
open Go Go.RowKit Go.ChangeShapes Go.WideShapes Go.ChangeAt Go.ChangeMaps Sc

set_option maxRecDepth 8000 in
set_option maxHeartbeats 2000000 in
theorem walk (w : World) (l : List Hd) (v : Value) (hs : Sl w 5 v (l.map Hd.row)) (hf : ∀ h ∈ l, h.fit) (box : ByteArray) (_ : box.size ≤ maxLen) (d : Int) (_ : (Lit.int .i64 d).wf = true) :
    Calls Try.prog 3 #[v, .string box, .int .i64 d] w (RetB w true) := by
  have HS := Lib.hid hs
  have HF := Lib.hid hf
  clear hs hf
  go_enter Try.func3, Try.ntmps3
  go_wp2_with fail
  refine (long_any l v w HS.out).mono ?_
  rintro e w1 ⟨b, rfl, hb, hb1⟩
  have HB1 := Lib.hid hb1
  clear hb1
  by_cases hgo : b = false ∧ box.size ≤ 60
  · obtain ⟨rfl, h60⟩ := hgo
    have HN : Hid (l.length ≤ 60) := Lib.hid (hb rfl)
    have HN4 : Hid (l.length ≤ 4000) := Lib.hid (by have := HN.out; omega)
    have HNM : Hid (l.length ≤ 1000000) := Lib.hid (by have := HN.out; omega)
    have t1 : decide ((60 : Int) < (box.size : Int)) = false := decide_eq_false (by omega)
    have HDL : Hid ((doneOf l).length ≤ 4000) := Lib.hid (by have := doneOf_len l; have := HN.out; omega)
    have HOL : Hid ((ownOf l box).length ≤ 4000) := Lib.hid (by have := ownOf_len l box; have := HN.out; omega)
    have HOF : Hid (∀ h ∈ ownOf l box, h.fit) := Lib.hid fun h hh => HF.out h (List.mem_filter.1 hh).1
    have HDO : Hid ((doneOf (ownOf l box)).length ≤ 4000) := Lib.hid (by have := doneOf_len (ownOf l box); have := HOL.out; omega)
    have HAP : Hid (ownOf (doneOf (ownOf l box)) box = ownOf (doneOf l) box) := Lib.hid (by rw [← doneOf_own box l.length l rfl (by have := HN.out; omega), ownOf_own])
    have HHL : Hid ((ownOf (doneOf l) box).length ≤ 1000000) := Lib.hid (by have := ownOf_len (doneOf l) box; have := HDL.out; omega)
    clear hb h60
    go_wp2_with (first
      | ((with_reducible refine (play_any l v _ (HS.out.below HB1.out (Nat.le_refl _)) HN4.out HF.out).mono ?_); rintro e w2 ⟨p2, v2, F2, rfl, hb2, hc2, -, -, -⟩; have HB2 := Lib.hid (HB1.out.trans (hb2.mono HB1.out.size)); obtain ⟨bp2, rfl⟩ : ∃ bp, p2 = .pointer (some ⟨bp, 0, none⟩) := (by obtain ⟨bp, bm, l, h, _⟩ := hc2; exact ⟨bp, h⟩); have HC2 := Lib.hid hc2; clear hb2 hc2)
      | ((with_reducible refine (refOwn_any l box v _ (HS.out.below HB2.out (Nat.le_refl _)) HNM.out).mono ?_); rintro e w3 ⟨v3, rfl, hown3, hb3⟩; have HB3 := Lib.hid (HB2.out.trans (hb3.mono HB2.out.size)); have HC3 := Lib.hid (HC2.out.below hb3); have HO3 := Lib.hid (own_hands hown3 rfl); clear hown3 hb3)
      | ((with_reducible refine (play_any (ownOf l box) _ _ HO3.out HOL.out HOF.out).mono ?_); rintro e w4 ⟨p4, v4, F4, rfl, hb4, hc4, -, -, -⟩; have HB4 := Lib.hid (HB3.out.trans (hb4.mono HB3.out.size)); have HC4 := Lib.hid (HC3.out.below hb4); obtain ⟨bp4, rfl⟩ : ∃ bp, p4 = .pointer (some ⟨bp, 0, none⟩) := (by obtain ⟨bp, bm, l, h, _⟩ := hc4; exact ⟨bp, h⟩); have HD4 := Lib.hid hc4; clear hb4 hc4)
      | ((with_reducible refine (as_any box d (.pointer (some ⟨bp2, 0, none⟩)) (doneOf l) F2 _ HC4.out HDL.out).mono ?_); rintro e w5 ⟨rfl, hb5⟩; have HB5 := Lib.hid (HB4.out.trans (hb5.mono HB4.out.size)); have HC5 := Lib.hid (HC4.out.below hb5); have HD5 := Lib.hid (HD4.out.below hb5); clear hb5)
      | ((with_reducible refine (as_any box d (.pointer (some ⟨bp4, 0, none⟩)) (doneOf (ownOf l box)) F4 _ HD5.out HDO.out).mono ?_); rintro e w6 ⟨rfl, hb6⟩; rw [HAP.out]; have HB6 := Lib.hid (HB5.out.trans (hb6.mono HB5.out.size)); have HC6 := Lib.hid (HC5.out.below hb6); have HD6 := Lib.hid (HD5.out.below hb6); clear hb6)
      | ((with_reducible refine (history_any box (.pointer (some ⟨bp2, 0, none⟩)) (doneOf l) F2 _ HC6.out HDL.out).mono ?_); rintro e w7 ⟨v7, rfl, hown7, hb7⟩; have HB7 := Lib.hid (HB6.out.trans (hb7.mono HB6.out.size)); have HD7 := Lib.hid (HD6.out.below hb7); have HO7 := Lib.hid (own_hands hown7 rfl); clear hown7 hb7)
      | ((with_reducible refine (history_any box (.pointer (some ⟨bp4, 0, none⟩)) (doneOf (ownOf l box)) F4 _ HD7.out HDO.out).mono ?_); rintro e w8 ⟨v8, rfl, hown8, hb8⟩; rw [HAP.out] at hown8; have HB8 := Lib.hid (HB7.out.trans (hb8.mono HB7.out.size)); have HO8 := Lib.hid (own_hands hown8 rfl); have HP8 := Lib.hid (HO7.out.below hb8 (Nat.le_refl _)); clear hown8 hb8)
      | ((with_reducible refine (refSame_any (ownOf (doneOf l) box) (ownOf (doneOf l) box) _ _ _ HP8.out HO8.out).mono ?_); rintro e w9 ⟨rfl, hb9⟩; rw [decide_eq_true rfl]; have HB9 := Lib.hid (HB8.out.trans (hb9.mono HB8.out.size)); clear hb9)
      | ((with_reducible refine (awake_any _).mono ?_); rintro e wA ⟨rfl, hbA⟩; have HBA := Lib.hid (HB9.out.trans (hbA.mono HB9.out.size)); clear hbA)
      | fail)
    go_ret
    exact retB rfl HBA.out
  · have HG := Lib.hid hgo
    clear hb hgo
    cases b with
    | true =>
      go_wp2_with (first | ((with_reducible refine (awake_any _).mono ?_); rintro e w2 ⟨rfl, hb2⟩; have HB2 := Lib.hid (HB1.out.trans (hb2.mono HB1.out.size)); clear hb2) | fail)
      go_ret
      exact retB rfl HB2.out
    | false =>
      have t1 : decide ((60 : Int) < (box.size : Int)) = true := decide_eq_true (by have := HG.out; simp at this; omega)
      go_wp2_with (first | ((with_reducible refine (awake_any _).mono ?_); rintro e w2 ⟨rfl, hb2⟩; have HB2 := Lib.hid (HB1.out.trans (hb2.mono HB1.out.size)); clear hb2) | fail)
      go_ret
      exact retB rfl HB2.out

theorem lifted (os : Os) (started : os.Started) (H : Type) (enc : TypeId × Value → H) :
    ReturnsInHanded {} Try.checked os 3 .any (Rows.custodyApartSpec.pre6 enc Try.prog Try.f3 Rows.custodyApartRow.domain false) (Rows.custodyApartSpec.post enc Try.prog Try.f3 false true false false) := by
  refine law_lifted os started (by kernel_rfl) Try.func3
    (ChangeSpec.witness6 (enc := enc) (C := Try.checked) false ⟨#[], #[.slice none 0 0, .string ⟨#[]⟩, .int .i64 0], []⟩ 8 (by kernel_rfl) (by kernel_rfl) (by kernel_rfl) (by kernel_rfl))
    (by kernel_rfl) rfl rfl ?_ ?_
  · intro vs ds W p hA
    rw [Try.params3] at hA
    obtain ⟨v0, vs0, d0, ds0, p0, q0, rfl, rfl, rfl, h0, r0⟩ := trodAll_cons hA
    obtain ⟨v1, vs1, d1, ds1, p1, q1, rfl, rfl, rfl, h1, r1⟩ := trodAll_cons r0
    obtain ⟨v2, vs2, d2, ds2, p2, q2, rfl, rfl, rfl, h2, r2⟩ := trodAll_cons r1
    obtain ⟨rfl, rfl, rfl⟩ := trodAll_nil r2
    rfl
  · intro W base args ds p hval hA
    rw [Try.params3] at hA hval
    obtain ⟨v0, vs0, d0, ds0, p0, q0, hargs, rfl, rfl, h0, r0⟩ := trodAll_cons hA
    obtain ⟨v1, vs1, d1, ds1, p1, q1, rfl, rfl, rfl, h1, r1⟩ := trodAll_cons r0
    obtain ⟨v2, vs2, d2, ds2, p2, q2, rfl, rfl, rfl, h2, r2⟩ := trodAll_cons r1
    obtain ⟨rfl, rfl, rfl⟩ := trodAll_nil r2
    obtain rfl : args = #[v0, v1, v2] := by cases args; simp_all
    obtain ⟨l0, hs0, hf0⟩ := open_hands (hval 0 22 v0 rfl rfl) h0
    obtain ⟨a1, rfl, rfl, rfl, w1⟩ := open_string Try.underlying9 (hval 1 9 v1 rfl rfl) h1
    obtain ⟨a2, rfl, rfl, rfl, w2⟩ := open_int Try.underlying3 (hval 2 3 v2 rfl rfl) h2
    exact walk W l0 v0 hs0 hf0 a1 w1 a2 w2

theorem over : Rows.custodyApartRow.holds Try.pinned (OpenSpec.ofChange Rows.custodyApartSpec) :=
  OpenClaim.holds_of_wide 3 Try.f3 rfl rfl rfl rfl rfl rfl rfl ⟨rfl, rfl, rfl, rfl, rfl⟩ rfl rfl rfl rfl rfl (by kernel_rfl) Try.func3 (by kernel_rfl)
    (of_decide_eq_true (by kernel_rfl)) (by unfold Func.isWrapper; rw [if_neg (by decide +kernel)]; exact ⟨rfl, rfl⟩)
    (fun os started H enc _ => lifted os started H enc)

/-- The statement. -/
theorem proved : Rows.CustodyApartSaid := over
#print axioms proved
end Go.Proofs.Ytmjblefjaccocaa.custodyApart
