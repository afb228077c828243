/- Deed by deed: whatever is pledged, released and paid, each answer, each thing's rank, whether it is free, and who may give it on, are what the chapter says. No condition. -/
import Derived.Test.YtnlfhncbnfmccaaEven26
import Derived.Test.YtnlfhncbnfmccaaTerms26
namespace Go.Proofs.Ytnlfhncbnfmccaa.lienPlays
open Go.ChangeShapes Go.WideShapes Go.ChangeAt Go.RowKit Go Sc Go.BigFrame
set_option maxRecDepth 100000
set_option maxHeartbeats 16000000 in
theorem walk (w : World) (l : List Dd) (vl : Value) (hsl : Sl w 8 vl (l.map Dd.row)) (_ : ∀ d ∈ l, d.fit) (t : ByteArray) (_ : t.size ≤ maxLen) (who : ByteArray) (_ : who.size ≤ maxLen) :
    Calls Try.prog 8 #[vl, .string t, .string who] w (RetB w true) := by
  have HAW := Lib.hid (awake_any w)
  have HHV := Lib.hid (fun W (hW : Below w.heap.size w W) => heavyD_any l 30 vl W (hsl.below hW (Nat.le_refl _)))
  have HSL := Lib.hid hsl
  obtain ⟨L, hL⟩ : ∃ L, L = deeds l := ⟨_, rfl⟩
  have HLL := Lib.hid hL
  clear hsl hL
  go_enter Try.func8, Try.ntmps8
  go_wp2_with (first
    | ((with_reducible refine HAW.out.mono ?_); rintro e w1 ⟨rfl, hb1⟩; have HB := Lib.hid hb1; clear hb1)
    | fail)
  refine (HHV.out _ HB.out).mono ?_
  rintro e w2 ⟨rfl, hb2⟩
  have HB2 := Lib.hid (HB.out.trans (hb2.mono HB.out.size))
  clear hb2
  generalize hq : heavyD l 30 = q
  cases q with
  | true =>
    clear hq
    go_wp2_with fail
    go_ret
    exact ⟨rfl, HB2.out⟩
  | false =>
  have HNO := Lib.hid (heavyD_no hq)
  clear hq
  by_cases c0 : 100 < t.size
  · skip
    go_wp2_with fail
    go_ret
    exact ⟨rfl, HB2.out⟩
  skip
  have HC0 := Lib.hid c0
  by_cases c1 : 100 < who.size
  · skip
    go_wp2_with fail
    go_ret
    exact ⟨rfl, HB2.out⟩
  skip
  have HC1 := Lib.hid c1
  have HLK : Hid (LnOk L ∧ L.length ≤ 30) := Lib.hid (by
    have h1 := HNO.out.1
    have h2 := deeds_len l
    rw [HLL.out]
    exact ⟨deeds_ok l, by omega⟩)
  have HGR := Lib.hid (grown_any l vl w2 (HSL.out.below HB2.out (Nat.le_refl _)) (by have := HNO.out.1; omega) HNO.out.2)
  unfold GrownP at HGR
  rw [← HLL.out] at HGR
  clear HC0 HC1
  go_wp2_with (first
    | ((with_reducible refine HGR.out.mono ?_); rintro e w3 ⟨F, bk, bm, vm, rfl, hx3, hs3, ho3, hF3, hb3⟩; have H3 := Lib.hid (And.intro hs3 (And.intro ho3 hF3)); have HX3 := Lib.hid hx3; have HB3 := Lib.hid (HB2.out.trans (hb3.mono HB2.out.size)); clear hs3 ho3 hF3 hb3 hx3
       have HEV := Lib.hid (even_any HX3.out HLK.out.1 (by have := HLK.out.2; omega) vm H3.out.1 t who))
    | ((with_reducible refine HEV.out.mono ?_); rintro e w4 ⟨rfl, hb4⟩; have HB4 := Lib.hid (HB3.out.trans (hb4.mono HB3.out.size)); clear hb4)
    | fail)
  go_ret
  exact ⟨rfl, HB4.out⟩
theorem lifted (os : Os) (started : os.Started) (H : Type) (enc : TypeId × Value → H) :
    ReturnsInHanded {} Try.checked os 8 .any (Rows.lienPlaysSpec.pre6 enc Try.prog Try.f8 Rows.lienPlaysRow.domain false) (Rows.lienPlaysSpec.post enc Try.prog Try.f8 false true false false) := by
  refine law_lifted os started (by kernel_rfl) Try.func8
    (ChangeSpec.witness6 (enc := enc) (C := Try.checked) false ⟨#[], #[.slice none 0 0, .string ⟨#[]⟩, .string ⟨#[]⟩], []⟩ 8 (by kernel_rfl) (by kernel_rfl) (by kernel_rfl) (by kernel_rfl))
    (by kernel_rfl) rfl rfl ?_ ?_
  · intro vs ds W p hA
    rw [Try.params8] at hA
    obtain ⟨v0, vs0, d0, ds0, p0, q0, rfl, rfl, rfl, h0, r0⟩ := trodAll_cons hA
    obtain ⟨v1, vs1, d1, ds1, p1, q1, rfl, rfl, rfl, h1, r1⟩ := trodAll_cons r0
    obtain ⟨v2, vs2, d2, ds2, p2, q2, rfl, rfl, rfl, h2, r2⟩ := trodAll_cons r1
    obtain ⟨rfl, rfl, rfl⟩ := trodAll_nil r2
    rfl
  · intro W base args ds p hval hA
    rw [Try.params8] at hA hval
    obtain ⟨v0, vs0, d0, ds0, p0, q0, hargs, rfl, rfl, h0, r0⟩ := trodAll_cons hA
    obtain ⟨v1, vs1, d1, ds1, p1, q1, rfl, rfl, rfl, h1, r1⟩ := trodAll_cons r0
    obtain ⟨v2, vs2, d2, ds2, p2, q2, rfl, rfl, rfl, h2, r2⟩ := trodAll_cons r1
    obtain ⟨rfl, rfl, rfl⟩ := trodAll_nil r2
    obtain rfl : args = #[v0, v1, v2] := by cases args; simp_all
    obtain ⟨l0, hs0, hf0⟩ := open_deeds (hval 0 22 v0 rfl rfl) h0
    obtain ⟨a1, rfl, rfl, rfl, w1⟩ := Go.ChangeMaps.open_string Try.underlying9 (hval 1 9 v1 rfl rfl) h1
    obtain ⟨a2, rfl, rfl, rfl, w2⟩ := Go.ChangeMaps.open_string Try.underlying9 (hval 2 9 v2 rfl rfl) h2
    exact walk W l0 v0 hs0 hf0 a1 w1 a2 w2

theorem over : Rows.lienPlaysRow.holds Try.pinned (OpenSpec.ofChange Rows.lienPlaysSpec) :=
  OpenClaim.holds_of_wide 8 Try.f8 rfl rfl rfl rfl rfl rfl rfl ⟨rfl, rfl, rfl, rfl, rfl⟩ rfl rfl rfl rfl rfl (by kernel_rfl) Try.func8 (by kernel_rfl)
    (of_decide_eq_true (by kernel_rfl)) (by unfold Func.isWrapper; rw [if_neg (by decide +kernel)]; exact ⟨rfl, rfl⟩)
    (fun os started H enc _ => lifted os started H enc)

/-- The statement. -/
theorem proved : Rows.LienPlaysSaid := over
#print axioms proved
end Go.Proofs.Ytnlfhncbnfmccaa.lienPlays
