/- What is done to a house isn't done to its copy. No condition. -/
import Derived.Test.YticnmmfiadpbbaaCharges25
namespace Go.Proofs.Yticnmmfiadpbbaa.receiptCopies
open Go.ChangeShapes Go.WideShapes Go.ChangeAt Go.RowKit Go Sc
set_option maxRecDepth 100000

set_option maxHeartbeats 8000000 in
theorem walk (w : World) (l : List Opv) (v : Value) (hs : OpsAt w v l) (hf : ∀ o ∈ l, o.fit) (m : List Opv) (u : Value) (hs2 : OpsAt w u m) (hf2 : ∀ o ∈ m, o.fit) :
    Calls Try.prog 6 #[v, u] w (RetB w true) := by
  have HAW := Lib.hid (fun W => awake_any W)
  have HLO := Lib.hid (long_any l v w hs hf)
  have HLM := Lib.hid (fun W (hW : Below w.heap.size w W) => long_any m u W (hs2.below hW) hf2)
  cases hlr : longR l
  · rw [hlr] at HLO
    obtain ⟨hsm, hlen⟩ := longR_small hlr
    have HPL := Lib.hid (fun W (hW : Below w.heap.size w W) => play_any ⟨#[115, 116, 111, 114, 101]⟩ l v W (hs.below hW) hf hsm hlen)
    have HNM := Lib.hid (playH_name ⟨⟨#[115, 116, 111, 114, 101]⟩, [], []⟩ (ropsOf l))
    have HOK := Lib.hid (playOk (nm := ⟨#[115, 116, 111, 114, 101]⟩) hlen)
    generalize playH ⟨⟨#[115, 116, 111, 114, 101]⟩, [], []⟩ (ropsOf l) = hq at *
    simp only at HNM
    clear hlr hs hf hsm hlen
    cases hlm : longR m
    · rw [hlm] at HLM
      obtain ⟨hsm2, hlen2⟩ := longR_small hlm
      have HCP := Lib.hid (fun bh bm bu W (h : Hsx W bh bm bu hq) => copyH_any W h HOK.out)
      have HLK := Lib.hid (fun bh bm bu W x (h : Hsx W bh bm bu hq) (r : RefH W x hq) => like_any x W h r HOK.out (by decide))
      obtain ⟨au, cu', rfl⟩ : ∃ a c, u = .slice a m.length c := by simpa using hs2.1.shape
      have HS := Lib.hid hs2
      have HSM := Lib.hid hsm2
      have HFT := Lib.hid hf2
      have HZE := Lib.hid (fun W => zeroRef W)
      have hml : m.length ≤ 9223372036854775807 := by omega
      have HLE := Lib.hid hlen2
      clear hlm hs2 hsm2 hf2 hlen2
      go_enter Try.func6, Try.ntmps6
      go_wp2_with (first
        | ((with_reducible refine HLO.out.mono ?_); rintro e w1 ⟨rfl, hb1⟩; have HB := Lib.hid hb1; clear hb1)
        | ((with_reducible refine (HLM.out _ HB.out).mono ?_); rintro e w21 ⟨rfl, hb21⟩; have HB := Lib.hid (HB.out.trans (hb21.mono HB.out.size)); clear hb21)
        | ((with_reducible refine (HPL.out _ HB.out).mono ?_); rintro e w2 ⟨bh, bm, bu, x, rfl, hh2, hr2, hge2, hb2⟩; obtain ⟨a1, m1, c1, a2, m2, c2, ex⟩ := hr2.shape; subst ex; rw [HNM.out] at hr2 ⊢; have hbn := one_below w2 (.cells #[.string ⟨#[115, 116, 111, 114, 101]⟩, .slice a1 m1 c1, .slice a2 m2 c2] 35); have HX := Lib.hid (heap_alloc_new w2 (.cells #[.string ⟨#[115, 116, 111, 114, 101]⟩, .slice a1 m1 c1, .slice a2 m2 c2] 35)); have HGE : Hid (w.heap.size ≤ bh ∧ w.heap.size ≤ bm ∧ w.heap.size ≤ bu) := Lib.hid (by have := HB.out.size; omega); have HH := Lib.hid (hh2.below hbn); have HR := Lib.hid (hr2.below hbn); have HB := Lib.hid (HB.out.trans ((hb2.trans (hbn.mono hb2.size)).mono HB.out.size)); clear hh2 hr2 hge2 hb2 hbn)
        | ((with_reducible refine (HCP.out _ _ _ _ HH.out).mono ?_); rintro e w3 ⟨hb3, ch, cm, cu, rfl, hh3, g1, g2, g3⟩; have hlt := HH.out.lt; have HNE : Hid ((cm ≠ bm ∧ cm ≠ bu) ∧ (cu ≠ bm ∧ cu ≠ bu)) := Lib.hid (by omega); have HCC := Lib.hid hh3; have HB := Lib.hid (HB.out.trans (hb3.mono HB.out.size)); have HH := Lib.hid (HH.out.below hb3); have HR := Lib.hid (HR.out.below hb3); have HX := Lib.hid (blk hb3 (lt_blk HX.out) HX.out); clear hb3 hh3 g1 g2 g3 hlt)
        | fail)
      go_loopw [30] (fun i wr => ∃ (k : Nat) (hz : Hs), k ≤ m.length ∧ i = .int .i64 k ∧ HsOk (20 + k) hz ∧ Hsx wr bh bm bu hz ∧ Hsx wr ch cm cu hq ∧ RefH wr (.agg #[.string ⟨#[115, 116, 111, 114, 101]⟩, .slice a1 m1 c1, .slice a2 m2 c2]) hq ∧
        wr.heap[w2.heap.size]? = some (.cells #[.string ⟨#[115, 116, 111, 114, 101]⟩, .slice a1 m1 c1, .slice a2 m2 c2] 35 (0, 0)) ∧ Below w.heap.size w wr) (fun i _ => m.length - (intOf i).toNat)
      case atStart => exact ⟨0, hq, Nat.zero_le _, rfl, HOK.out, HH.out, HCC.out, HR.out, HX.out, HB.out⟩
      case round =>
        obtain ⟨k, hz, hk, rfl, hoz, hhz, hcz, hrz, hxz, hbel⟩ := hrel
        have HOZ := Lib.hid hoz
        by_cases hlt : k < m.length
        · obtain ⟨b, off, rfl, -, hb, hc⟩ := HS.out.1.at (i := k) (by simpa using hlt)
          have hro := hc k m[k].row (by simp [hlt])
          have d0 := (hbel.cell (p := ⟨b, off + k * 8, none⟩) hb).trans (hro 0 _ rfl)
          have d1 := (hbel.cell (p := ⟨b, off + k * 8 + 1, none⟩) hb).trans (hro 1 _ rfl)
          have d2 := (hbel.cell (p := ⟨b, off + k * 8 + 2, none⟩) hb).trans (hro 2 _ rfl)
          have d3 := (hbel.cell (p := ⟨b, off + k * 8 + 3, none⟩) hb).trans (hro 3 _ rfl)
          have d4 := (hbel.cell (p := ⟨b, off + k * 8 + 4, none⟩) hb).trans (hro 4 _ rfl)
          have d5 := (hbel.cell (p := ⟨b, off + k * 8 + 5, none⟩) hb).trans (hro 5 _ rfl)
          have d6 := (hbel.cell (p := ⟨b, off + k * 8 + 6, none⟩) hb).trans (hro 6 _ rfl)
          have d7 := (hbel.cell (p := ⟨b, off + k * 8 + 7, none⟩) hb).trans (hro 7 _ rfl)
          have hat := (HS.out.2 m[k] (List.getElem_mem hlt)).below hbel
          have hfo := HFT.out m[k] (List.getElem_mem hlt)
          have hsx := HSM.out m[k] (List.getElem_mem hlt)
          generalize m[k] = x at *
          have HDO0 := Lib.hid (fun W (h1 : Hsx W bh bm bu hz) (h2 : RefH W (.agg #[.string ⟨#[]⟩, .slice none 0 0, .slice none 0 0]) ⟨⟨#[]⟩, [], []⟩) (h3 : x.at W) => do_any x _ W h1 h2 HOZ.out ((hsOk_nil _).mono (Nat.zero_le _)) h3 hfo hsx (by have := HLE.out; omega))
          obtain ⟨xk, xn, xb, xt, xd, xl, xs, xp, lv, nv, pv⟩ := x
          obtain ⟨al, cl, rfl⟩ : ∃ a c, lv = .slice a xl.length c := by simpa using hat.1.shape
          obtain ⟨an, cn, rfl⟩ : ∃ a c, nv = .slice a xs.length c := by simpa using hat.2.1.shape
          obtain ⟨ap, cp, rfl⟩ : ∃ a c, pv = .slice a xp.length c := by simpa using hat.2.2.1.shape
          simp only at d0 d1 d2 d3 d4 d5 d6 d7
          have HDO : Hid (∀ W, Hsx W bh bm bu hz → RefH W (.agg #[.string ⟨#[]⟩, .slice none 0 0, .slice none 0 0]) ⟨⟨#[]⟩, [], []⟩ → Opv.at W ⟨xk, xn, xb, xt, xd, xl, xs, xp, .slice al xl.length cl, .slice an xs.length cn, .slice ap xp.length cp⟩ → Calls Try.prog 11 #[.pointer (some ⟨bh, 0, none⟩), .agg #[.string ⟨#[]⟩, .slice none 0 0, .slice none 0 0], .agg #[.int .i64 xk, .string xn, .string xb, .string xt, .int .i64 xd, .slice al xl.length cl, .slice an xs.length cn, .slice ap xp.length cp]] W (DoP W bh bm bu (opH hz (Opv.rop ⟨xk, xn, xb, xt, xd, xl, xs, xp, .slice al xl.length cl, .slice an xs.length cn, .slice ap xp.length cp⟩)) (opH ⟨⟨#[]⟩, [], []⟩ (Opv.rop ⟨xk, xn, xb, xt, xd, xl, xs, xp, .slice al xl.length cl, .slice an xs.length cn, .slice ap xp.length cp⟩)) (opC hz (Opv.rop ⟨xk, xn, xb, xt, xd, xl, xs, xp, .slice al xl.length cl, .slice an xs.length cn, .slice ap xp.length cp⟩)) (opC ⟨⟨#[]⟩, [], []⟩ (Opv.rop ⟨xk, xn, xb, xt, xd, xl, xs, xp, .slice al xl.length cl, .slice an xs.length cn, .slice ap xp.length cp⟩)))) := Lib.hid (fun W h1 h2 h3 => HDO0.out W h1 h2 h3)
          obtain ⟨wq, rfl⟩ : ∃ W, W = wr := ⟨_, rfl⟩
          have hba := one_below wq (.cells #[.int .i64 xk, .string xn, .string xb, .string xt, .int .i64 xd, .slice al xl.length cl, .slice an xs.length cn, .slice ap xp.length cp] 31)
          have HBA := Lib.hid (hbel.trans (hba.mono hbel.size))
          have HHA := Lib.hid (hhz.below hba)
          have HCA := Lib.hid (hcz.below hba)
          have HRA := Lib.hid (hrz.below hba)
          have HATA := Lib.hid (hat.below hba)
          have HXA := Lib.hid (blk hba (lt_blk hxz) hxz)
          clear hro hc hb hbel hat hfo hsx hba hhz hcz hrz hxz hoz HDO0
          go_wp2_with (first
            | ((with_reducible refine (HDO.out _ HHA.out (HZE.out _) HATA.out).mono ?_); rintro e w4 ⟨y, rfl, hk4, hh4, hr4⟩; have HMP := Lib.hid HHA.out.maps; have HH4 := Lib.hid hh4; have HB4 := Lib.hid (hk4.behind HBA.out HBA.out.size (fun q hq e => by have := HGE.out; omega)); have HC4 := Lib.hid (HCA.out.keepM hk4 HMP.out (fun e => e.elim HNE.out.1.1 HNE.out.1.2) (fun e => e.elim HNE.out.2.1 HNE.out.2.2)); have HR4 := Lib.hid (HRA.out.keepM hk4 HMP.out); have HX4 := Lib.hid (keep_blk hk4 HMP.out HXA.out (by simp)); clear hk4 hh4 hr4)
            | fail)
          go_roundw
          case rel => exact ⟨k + 1, opH hz (Opv.rop ⟨xk, xn, xb, xt, xd, xl, xs, xp, .slice al xl.length cl, .slice an xs.length cn, .slice ap xp.length cp⟩), by omega, by go_num, by have := HOZ.out.op (Opv.rop ⟨xk, xn, xb, xt, xd, xl, xs, xp, .slice al xl.length cl, .slice an xs.length cn, .slice ap xp.length cp⟩); rwa [Nat.add_assoc] at this, HH4.out, HC4.out, HR4.out, HX4.out, HB4.out⟩
          case measure => (simp [intOf]) <;> omega
        · have HB := Lib.hid hbel
          have HCC := Lib.hid hcz
          have HR := Lib.hid hrz
          have HX := Lib.hid hxz
          clear hbel hhz hcz hrz hxz hoz
          obtain ⟨z0, z1, z2⟩ := cells3_blk HX.out
          go_wp2_with (first
            | ((with_reducible refine (HLK.out _ _ _ _ _ HCC.out HR.out).mono ?_); rintro e w8 ⟨rfl, hb8⟩; have HB := Lib.hid (HB.out.trans (hb8.mono HB.out.size)); clear hb8)
            | ((with_reducible refine (HAW.out _).mono ?_); rintro e w9 ⟨rfl, hb9⟩; have HB := Lib.hid (HB.out.trans (hb9.mono HB.out.size)); clear hb9)
            | fail)
          go_ret
          exact retB rfl HB.out
    · rw [hlm] at HLM
      clear hlm hs2 hf2
      go_enter Try.func6, Try.ntmps6
      go_wp2_with (first
        | ((with_reducible refine HLO.out.mono ?_); rintro e w1 ⟨rfl, hb1⟩; have HB := Lib.hid hb1; clear hb1)
        | ((with_reducible refine (HLM.out _ HB.out).mono ?_); rintro e w21 ⟨rfl, hb21⟩; have HB := Lib.hid (HB.out.trans (hb21.mono HB.out.size)); clear hb21)
        | ((with_reducible refine (HAW.out _).mono ?_); rintro e w9 ⟨rfl, hb9⟩; have HB := Lib.hid (HB.out.trans (hb9.mono HB.out.size)); clear hb9)
        | fail)
      go_ret
      exact retB rfl HB.out
  · rw [hlr] at HLO
    clear hlr hs hf hs2 hf2
    go_enter Try.func6, Try.ntmps6
    go_wp2_with (first
      | ((with_reducible refine HLO.out.mono ?_); rintro e w1 ⟨rfl, hb1⟩; have HB := Lib.hid hb1; clear hb1)
      | ((with_reducible refine (HAW.out _).mono ?_); rintro e w9 ⟨rfl, hb9⟩; have HB := Lib.hid (HB.out.trans (hb9.mono HB.out.size)); clear hb9)
      | fail)
    go_ret
    exact retB rfl HB.out

theorem lifted (os : Os) (started : os.Started) (H : Type) (enc : TypeId × Value → H) :
    ReturnsInHanded {} Try.checked os 6 .any (Rows.receiptCopiesSpec.pre6 enc Try.prog Try.f6 Rows.receiptCopiesRow.domain false) (Rows.receiptCopiesSpec.post enc Try.prog Try.f6 false true false false) := by
  refine law_lifted os started (by kernel_rfl) Try.func6
    (ChangeSpec.witness6 (enc := enc) (C := Try.checked) false ⟨#[], #[.slice none 0 0, .slice none 0 0], []⟩ 8 (by kernel_rfl) (by kernel_rfl) (by kernel_rfl) (by kernel_rfl))
    (by kernel_rfl) rfl rfl ?_ ?_
  · intro vs ds W p hA
    rw [Try.params6] at hA
    obtain ⟨v0, vs0, d0, ds0, p0, q0, rfl, rfl, rfl, h0, r0⟩ := trodAll_cons hA
    obtain ⟨v1, vs1, d1, ds1, p1, q1, rfl, rfl, rfl, h1, r1⟩ := trodAll_cons r0
    obtain ⟨rfl, rfl, rfl⟩ := trodAll_nil r1
    rfl
  · intro W base args ds p hval hA
    rw [Try.params6] at hA hval
    obtain ⟨v0, vs0, d0, ds0, p0, q0, hargs, rfl, rfl, h0, r0⟩ := trodAll_cons hA
    obtain ⟨v1, vs1, d1, ds1, p1, q1, rfl, rfl, rfl, h1, r1⟩ := trodAll_cons r0
    obtain ⟨rfl, rfl, rfl⟩ := trodAll_nil r1
    obtain rfl : args = #[v0, v1] := by cases args; simp_all
    obtain ⟨l0, hs0, hf0⟩ := open_ops25 (hval 0 22 v0 rfl rfl) h0
    obtain ⟨l1, hs1, hf1⟩ := open_ops25 (hval 1 22 v1 rfl rfl) h1
    exact walk W l0 v0 hs0 hf0 l1 v1 hs1 hf1

theorem over : Rows.receiptCopiesRow.holds Try.pinned (OpenSpec.ofChange Rows.receiptCopiesSpec) :=
  OpenClaim.holds_of_wide 6 Try.f6 rfl rfl rfl rfl rfl rfl rfl ⟨rfl, rfl, rfl, rfl, rfl⟩ rfl rfl rfl rfl rfl (by kernel_rfl) Try.func6 (by kernel_rfl)
    (of_decide_eq_true (by kernel_rfl)) (by unfold Func.isWrapper; rw [if_neg (by decide +kernel)]; exact ⟨rfl, rfl⟩)
    (fun os started H enc _ => lifted os started H enc)

/-- The statement. -/
theorem proved : Rows.ReceiptCopiesSaid := over
#print axioms proved
end Go.Proofs.Yticnmmfiadpbbaa.receiptCopies
