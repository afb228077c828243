/- Charges are the document's, or what is wrong is told; for no day there are none. No condition. -/
import Derived.Test.YticnmmfiadpbbaaAwake25
import Derived.Test.YticnmmfiadpbbaaTell25
namespace Go.Proofs.Yticnmmfiadpbbaa.Sc
open Go Go.RowKit
theorem playOk {nm : ByteArray} {l : List Opv} (h : l.length ≤ 20) : HsOk 20 (playH ⟨nm, [], []⟩ (ropsOf l)) := by
  have h1 := (hsOk_nil nm).play (ropsOf l)
  rw [ropsOf, List.length_map, Nat.zero_add] at h1
  exact h1.mono h
theorem zeroRef (w : World) : RefH w (.agg #[.string ⟨#[]⟩, .slice none 0 0, .slice none 0 0]) ⟨⟨#[]⟩, [], []⟩ :=
  ⟨[], _, _, rfl, rfl, .inl ⟨rfl, none, 0, rfl, fun _ => rfl⟩, fun y hy => (by cases hy), .inl ⟨rfl, none, 0, rfl, fun _ => rfl⟩⟩
theorem Hsx.keepM {F : Nat → Prop} {w w' : World} {bh bm bu : Nat} {h : Hs} (H : Hsx w bh bm bu h) (k : Keep F w w') (hF : ∀ b, F b → ∀ j, w.cell? ⟨b, j, none⟩ = none) (h1 : ¬ F bm) (h2 : ¬ F bu) : Hsx w' bh bm bu h := by
  obtain ⟨es, us, H⟩ := H
  exact ⟨es, us, H.keepM k hF h1 h2⟩
end Go.Proofs.Yticnmmfiadpbbaa.Sc
namespace Go.Proofs.Yticnmmfiadpbbaa.receiptCharges
open Go.ChangeShapes Go.WideShapes Go.ChangeAt Go.RowKit Go Sc
set_option maxRecDepth 100000

set_option maxHeartbeats 8000000 in
theorem walk (w : World) (l : List Opv) (v : Value) (hs : OpsAt w v l) (hf : ∀ o ∈ l, o.fit) (number : ByteArray) (_ : number.size ≤ maxLen) (day : Int) (_ : (Lit.int .i64 day).wf = true) (p : Int) (_ : (Lit.int .i64 p).wf = true) :
    Calls Try.prog 7 #[v, .string number, .int .i64 day, .int .i64 p] w (RetB w true) := by
  have HAW := Lib.hid (fun W => awake_any W)
  have HLO := Lib.hid (long_any l v w hs hf)
  cases hlr : longR l
  · rw [hlr] at HLO
    obtain ⟨hsm, hlen⟩ := longR_small hlr
    have HPL := Lib.hid (fun W (hW : Below w.heap.size w W) => play_any ⟨#[115, 116, 111, 114, 101]⟩ l v W (hs.below hW) hf hsm hlen)
    have HNM := Lib.hid (playH_name ⟨⟨#[115, 116, 111, 114, 101]⟩, [], []⟩ (ropsOf l))
    have hok := playOk (nm := ⟨#[115, 116, 111, 114, 101]⟩) hlen
    generalize playH ⟨⟨#[115, 116, 111, 114, 101]⟩, [], []⟩ (ropsOf l) = hq at *
    simp only at HNM
    clear hlr hs hf hsm hlen
    by_cases h60 : (60 : Int) < (number.size : Int)
    · have t60 : decide ((60 : Int) < (number.size : Int)) = true := decide_eq_true h60
      clear h60
      go_enter Try.func7, Try.ntmps7
      go_wp2_with (first
        | ((with_reducible refine HLO.out.mono ?_); rintro e w1 ⟨rfl, hb1⟩; have HB := Lib.hid hb1; clear hb1)
        | ((with_reducible refine (HAW.out _).mono ?_); rintro e w9 ⟨rfl, hb9⟩; have HB := Lib.hid (HB.out.trans (hb9.mono HB.out.size)); clear hb9)
        | fail)
      go_ret
      exact retB rfl HB.out
    · have t60 : decide ((60 : Int) < (number.size : Int)) = false := decide_eq_false h60
      clear h60
      obtain ⟨n1, e1, hc1⟩ : ∃ n e, chargeC hq number day p = (n, e) := ⟨_, _, rfl⟩
      have HC1 : Hid (∀ bh bm bu W, Hsx W bh bm bu hq → Calls Try.prog 22 #[.pointer (some ⟨bh, 0, none⟩), .string number, .int .i64 day, .int .i64 p] W (Ret W (.tuple #[.int .i64 n1, .int .i64 e1]))) := Lib.hid (fun bh bm bu W h => by
        have := chargesH_any number day p W h hok
        rw [hc1] at this
        exact this)
      have HRC : Hid (∀ x W, RefH W x hq → Calls Try.prog 23 #[x, .string number, .int .i64 day, .int .i64 p] W (Ret W (.tuple #[.int .i64 n1, .int .i64 e1]))) := Lib.hid (fun x W h => by
        have := refCharges_any x number day p W h hok
        rw [hc1] at this
        exact this)
      have tn : (n1 != n1) = false := by simp
      have te : (e1 != e1) = false := by simp
      obtain ⟨⟨gn, gh, go, gl, gd⟩, hgr⟩ : ∃ r, getR hq number = r := ⟨_, rfl⟩
      obtain ⟨ok, hgo⟩ : ∃ b, thereB hq number = b := ⟨_, rfl⟩
      have HGET : Hid (∀ bh bm bu W, Hsx W bh bm bu hq → Calls Try.prog 16 #[.pointer (some ⟨bh, 0, none⟩), .string number] W (fun e w' => Below W.heap.size W w' ∧ ∃ lv, e = .returned (.tuple #[.agg #[.string gn, .string gh, .string go, lv, .int .i64 gd], .bool ok]) ∧ Sl w' 2 lv (gl.map Lt.row))) := Lib.hid (fun bh bm bu W h => by
        have := getH_any number W h hok
        unfold GetHP at this
        rw [hgr, hgo] at this
        exact this)
      obtain ⟨n2, e2, hc2⟩ : ∃ n e, chargeC hq number gd 5 = (n, e) := ⟨_, _, rfl⟩
      have HC2 : Hid (∀ bh bm bu W, Hsx W bh bm bu hq → Calls Try.prog 22 #[.pointer (some ⟨bh, 0, none⟩), .string number, .int .i64 gd, .int .i64 5] W (Ret W (.tuple #[.int .i64 n2, .int .i64 e2]))) := Lib.hid (fun bh bm bu W h => by
        have := chargesH_any number gd 5 W h hok
        rw [hc2] at this
        exact this)
      have hz : ok = true → n2 = 0 ∧ e2 = 0 := fun e => by
        rw [e] at hgo
        unfold thereB at hgo
        cases hr : rfind hq.L number with
        | none => rw [hr] at hgo; cases hgo
        | some r =>
          have hg2 := hgr
          unfold getR at hg2
          rw [hr] at hg2
          have hd : r.day = gd := by rw [Option.getD_some] at hg2; rw [hg2]
          have hro := (hok.all r (rfind_some hr).1).day
          unfold chargeC at hc2
          rw [hr] at hc2
          simp only [hd] at hc2
          rw [if_neg (by simp; omega)] at hc2
          have h0 : chargeT r gd = 0 := by rw [chargeT, hd, Int.sub_self, Int.mul_zero]
          rw [h0, Int.zero_mul, if_neg (by decide)] at hc2
          simp only [Prod.mk.injEq] at hc2
          exact ⟨hc2.1.symm, hc2.2.symm⟩
      clear hc1 hc2 hgr hgo hok
      cases ok
      · clear hz
        go_enter Try.func7, Try.ntmps7
        go_wp2_with (first
          | ((with_reducible refine HLO.out.mono ?_); rintro e w1 ⟨rfl, hb1⟩; have HB := Lib.hid hb1; clear hb1)
          | ((with_reducible refine (HPL.out _ HB.out).mono ?_); rintro e w2 ⟨bh, bm, bu, x, rfl, hh2, hr2, hge2, hb2⟩; obtain ⟨a1, m1, c1, a2, m2, c2, ex⟩ := hr2.shape; subst ex; rw [HNM.out] at hr2 ⊢; have hbn := one_below w2 (.cells #[.string ⟨#[115, 116, 111, 114, 101]⟩, .slice a1 m1 c1, .slice a2 m2 c2] 35); have HX := Lib.hid (heap_alloc_new w2 (.cells #[.string ⟨#[115, 116, 111, 114, 101]⟩, .slice a1 m1 c1, .slice a2 m2 c2] 35)); have HGE : Hid (w.heap.size ≤ bh ∧ w.heap.size ≤ bm ∧ w.heap.size ≤ bu) := Lib.hid (by have := HB.out.size; omega); have HH := Lib.hid (hh2.below hbn); have HR := Lib.hid (hr2.below hbn); have HB := Lib.hid (HB.out.trans ((hb2.trans (hbn.mono hb2.size)).mono HB.out.size)); clear hh2 hr2 hge2 hb2 hbn)
          | ((with_reducible refine (HC1.out _ _ _ _ HH.out).mono ?_); rintro e w3 ⟨rfl, hb3⟩; have HB := Lib.hid (HB.out.trans (hb3.mono HB.out.size)); have HH := Lib.hid (HH.out.below hb3); have HR := Lib.hid (HR.out.below hb3); have HX := Lib.hid (blk hb3 (lt_blk HX.out) HX.out); obtain ⟨z0, z1, z2⟩ := cells3_blk HX.out; clear hb3)
          | ((with_reducible refine (HRC.out _ _ HR.out).mono ?_); rintro e w4 ⟨rfl, hb4⟩; have HB := Lib.hid (HB.out.trans (hb4.mono HB.out.size)); have HH := Lib.hid (HH.out.below hb4); have HR := Lib.hid (HR.out.below hb4); have HX := Lib.hid (blk hb4 (lt_blk HX.out) HX.out); clear hb4 z0 z1 z2)
          | ((with_reducible refine (HGET.out _ _ _ _ HH.out).mono ?_); rintro e w5 ⟨hb5, lv, rfl, hs5⟩; obtain ⟨al, cl, rfl⟩ : ∃ a c, lv = .slice a gl.length c := (by simpa using hs5.shape); have HB := Lib.hid (HB.out.trans (hb5.mono HB.out.size)); have HH := Lib.hid (HH.out.below hb5); have HR := Lib.hid (HR.out.below hb5); have HX := Lib.hid (blk hb5 (lt_blk HX.out) HX.out); have hb6 := one_below w5 (.cells #[.string gn, .string gh, .string go, .slice al gl.length cl, .int .i64 gd] 45); have HB := Lib.hid (HB.out.trans (hb6.mono HB.out.size)); have HH := Lib.hid (HH.out.below hb6); have HR := Lib.hid (HR.out.below hb6); have HX := Lib.hid (blk hb6 (lt_blk HX.out) HX.out); clear hb5 hb6 hs5)
          | ((with_reducible refine (HC2.out _ _ _ _ HH.out).mono ?_); rintro e w7 ⟨rfl, hb7⟩; have HB := Lib.hid (HB.out.trans (hb7.mono HB.out.size)); clear hb7)
          | ((with_reducible refine (HAW.out _).mono ?_); rintro e w9 ⟨rfl, hb9⟩; have HB := Lib.hid (HB.out.trans (hb9.mono HB.out.size)); clear hb9)
          | fail)
        go_ret
        exact retB rfl HB.out
      · obtain ⟨rfl, rfl⟩ := hz rfl
        clear hz
        go_enter Try.func7, Try.ntmps7
        go_wp2_with (first
          | ((with_reducible refine HLO.out.mono ?_); rintro e w1 ⟨rfl, hb1⟩; have HB := Lib.hid hb1; clear hb1)
          | ((with_reducible refine (HPL.out _ HB.out).mono ?_); rintro e w2 ⟨bh, bm, bu, x, rfl, hh2, hr2, hge2, hb2⟩; obtain ⟨a1, m1, c1, a2, m2, c2, ex⟩ := hr2.shape; subst ex; rw [HNM.out] at hr2 ⊢; have hbn := one_below w2 (.cells #[.string ⟨#[115, 116, 111, 114, 101]⟩, .slice a1 m1 c1, .slice a2 m2 c2] 35); have HX := Lib.hid (heap_alloc_new w2 (.cells #[.string ⟨#[115, 116, 111, 114, 101]⟩, .slice a1 m1 c1, .slice a2 m2 c2] 35)); have HGE : Hid (w.heap.size ≤ bh ∧ w.heap.size ≤ bm ∧ w.heap.size ≤ bu) := Lib.hid (by have := HB.out.size; omega); have HH := Lib.hid (hh2.below hbn); have HR := Lib.hid (hr2.below hbn); have HB := Lib.hid (HB.out.trans ((hb2.trans (hbn.mono hb2.size)).mono HB.out.size)); clear hh2 hr2 hge2 hb2 hbn)
          | ((with_reducible refine (HC1.out _ _ _ _ HH.out).mono ?_); rintro e w3 ⟨rfl, hb3⟩; have HB := Lib.hid (HB.out.trans (hb3.mono HB.out.size)); have HH := Lib.hid (HH.out.below hb3); have HR := Lib.hid (HR.out.below hb3); have HX := Lib.hid (blk hb3 (lt_blk HX.out) HX.out); obtain ⟨z0, z1, z2⟩ := cells3_blk HX.out; clear hb3)
          | ((with_reducible refine (HRC.out _ _ HR.out).mono ?_); rintro e w4 ⟨rfl, hb4⟩; have HB := Lib.hid (HB.out.trans (hb4.mono HB.out.size)); have HH := Lib.hid (HH.out.below hb4); have HR := Lib.hid (HR.out.below hb4); have HX := Lib.hid (blk hb4 (lt_blk HX.out) HX.out); clear hb4 z0 z1 z2)
          | ((with_reducible refine (HGET.out _ _ _ _ HH.out).mono ?_); rintro e w5 ⟨hb5, lv, rfl, hs5⟩; obtain ⟨al, cl, rfl⟩ : ∃ a c, lv = .slice a gl.length c := (by simpa using hs5.shape); have HB := Lib.hid (HB.out.trans (hb5.mono HB.out.size)); have HH := Lib.hid (HH.out.below hb5); have HR := Lib.hid (HR.out.below hb5); have HX := Lib.hid (blk hb5 (lt_blk HX.out) HX.out); have hb6 := one_below w5 (.cells #[.string gn, .string gh, .string go, .slice al gl.length cl, .int .i64 gd] 45); have HB := Lib.hid (HB.out.trans (hb6.mono HB.out.size)); have HH := Lib.hid (HH.out.below hb6); have HR := Lib.hid (HR.out.below hb6); have HX := Lib.hid (blk hb6 (lt_blk HX.out) HX.out); clear hb5 hb6 hs5)
          | ((with_reducible refine (HC2.out _ _ _ _ HH.out).mono ?_); rintro e w7 ⟨rfl, hb7⟩; have HB := Lib.hid (HB.out.trans (hb7.mono HB.out.size)); clear hb7)
          | ((with_reducible refine (HAW.out _).mono ?_); rintro e w9 ⟨rfl, hb9⟩; have HB := Lib.hid (HB.out.trans (hb9.mono HB.out.size)); clear hb9)
          | fail)
        go_ret
        exact retB rfl HB.out
  · rw [hlr] at HLO
    clear hlr hs hf
    go_enter Try.func7, Try.ntmps7
    go_wp2_with (first
      | ((with_reducible refine HLO.out.mono ?_); rintro e w1 ⟨rfl, hb1⟩; have HB := Lib.hid hb1; clear hb1)
      | ((with_reducible refine (HAW.out _).mono ?_); rintro e w9 ⟨rfl, hb9⟩; have HB := Lib.hid (HB.out.trans (hb9.mono HB.out.size)); clear hb9)
      | fail)
    go_ret
    exact retB rfl HB.out

theorem lifted (os : Os) (started : os.Started) (H : Type) (enc : TypeId × Value → H) :
    ReturnsInHanded {} Try.checked os 7 .any (Rows.receiptChargesSpec.pre6 enc Try.prog Try.f7 Rows.receiptChargesRow.domain false) (Rows.receiptChargesSpec.post enc Try.prog Try.f7 false true false false) := by
  refine law_lifted os started (by kernel_rfl) Try.func7
    (ChangeSpec.witness6 (enc := enc) (C := Try.checked) false ⟨#[], #[.slice none 0 0, .string ⟨#[]⟩, .int .i64 0, .int .i64 0], []⟩ 8 (by kernel_rfl) (by kernel_rfl) (by kernel_rfl) (by kernel_rfl))
    (by kernel_rfl) rfl rfl ?_ ?_
  · intro vs ds W p hA
    rw [Try.params7] at hA
    obtain ⟨v0, vs0, d0, ds0, p0, q0, rfl, rfl, rfl, h0, r0⟩ := trodAll_cons hA
    obtain ⟨v1, vs1, d1, ds1, p1, q1, rfl, rfl, rfl, h1, r1⟩ := trodAll_cons r0
    obtain ⟨v2, vs2, d2, ds2, p2, q2, rfl, rfl, rfl, h2, r2⟩ := trodAll_cons r1
    obtain ⟨v3, vs3, d3, ds3, p3, q3, rfl, rfl, rfl, h3, r3⟩ := trodAll_cons r2
    obtain ⟨rfl, rfl, rfl⟩ := trodAll_nil r3
    rfl
  · intro W base args ds p hval hA
    rw [Try.params7] at hA hval
    obtain ⟨v0, vs0, d0, ds0, p0, q0, hargs, rfl, rfl, h0, r0⟩ := trodAll_cons hA
    obtain ⟨v1, vs1, d1, ds1, p1, q1, rfl, rfl, rfl, h1, r1⟩ := trodAll_cons r0
    obtain ⟨v2, vs2, d2, ds2, p2, q2, rfl, rfl, rfl, h2, r2⟩ := trodAll_cons r1
    obtain ⟨v3, vs3, d3, ds3, p3, q3, rfl, rfl, rfl, h3, r3⟩ := trodAll_cons r2
    obtain ⟨rfl, rfl, rfl⟩ := trodAll_nil r3
    obtain rfl : args = #[v0, v1, v2, v3] := by cases args; simp_all
    obtain ⟨l0, hs0, hf0⟩ := open_ops25 (hval 0 22 v0 rfl rfl) h0
    obtain ⟨a1, rfl, rfl, rfl, w1⟩ := Go.ChangeMaps.open_string Try.underlying9 (hval 1 9 v1 rfl rfl) h1
    obtain ⟨a2, rfl, rfl, rfl, w2⟩ := open_int Try.underlying3 (hval 2 3 v2 rfl rfl) h2
    obtain ⟨a3, rfl, rfl, rfl, w3⟩ := open_int Try.underlying2 (hval 3 2 v3 rfl rfl) h3
    exact walk W l0 v0 hs0 hf0 a1 w1 a2 w2 a3 w3

theorem over : Rows.receiptChargesRow.holds Try.pinned (OpenSpec.ofChange Rows.receiptChargesSpec) :=
  OpenClaim.holds_of_wide 7 Try.f7 rfl rfl rfl rfl rfl rfl rfl ⟨rfl, rfl, rfl, rfl, rfl⟩ rfl rfl rfl rfl rfl (by kernel_rfl) Try.func7 (by kernel_rfl)
    (of_decide_eq_true (by kernel_rfl)) (by unfold Func.isWrapper; rw [if_neg (by decide +kernel)]; exact ⟨rfl, rfl⟩)
    (fun os started H enc _ => lifted os started H enc)

/-- The statement. -/
theorem proved : Rows.ReceiptChargesSaid := over
#print axioms proved
end Go.Proofs.Yticnmmfiadpbbaa.receiptCharges
