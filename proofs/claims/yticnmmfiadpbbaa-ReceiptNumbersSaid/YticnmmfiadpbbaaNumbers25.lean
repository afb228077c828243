/- A number that was used isn't used again, also of a receipt that went out wholly. No condition. -/
import Derived.Test.YticnmmfiadpbbaaCharges25
namespace Go.Proofs.Yticnmmfiadpbbaa.Sc
open Go Go.RowKit
theorem store_used {h : Hs} {n who : ByteArray} {l : List Lt} (h1 : nameOk n = true) (h2 : nameOk who = true) (h3 : lotsOk l = true) (h4 : n ∈ h.used) : storeC h n who 0 l = 5 ∧ storeH h n who 0 l = h := by
  have hc : storeC h n who 0 l = 5 := by
    unfold storeC
    rw [h1, h2, h3, memB_iff.2 h4]
    rfl
  exact ⟨hc, if_neg (by rw [hc]; decide)⟩
theorem RefH.usedSl {w : World} {s vL vU : Value} {h : Hs} (r : RefH w (.agg #[s, vL, vU]) h) : Sl w 1 vU (h.used.map stRow) := by
  obtain ⟨M, vL', vU', e, -, -, -, h4⟩ := r
  simp only [Value.agg.injEq, Array.mk.injEq, List.cons.injEq] at e
  obtain ⟨-, -, rfl, -⟩ := e
  exact h4
end Go.Proofs.Yticnmmfiadpbbaa.Sc
namespace Go.Proofs.Yticnmmfiadpbbaa.receiptNumbers
open Go.ChangeShapes Go.WideShapes Go.ChangeAt Go.RowKit Go Sc
set_option maxRecDepth 100000

set_option maxHeartbeats 8000000 in
theorem walk (w : World) (l : List Opv) (v : Value) (hs : OpsAt w v l) (hf : ∀ o ∈ l, o.fit) (holder : ByteArray) (hho : holder.size ≤ maxLen) (lots : List Lt) (u : Value) (hs2 : Sl w 2 u (lots.map Lt.row)) (hf2 : ∀ x ∈ lots, x.fit) :
    Calls Try.prog 5 #[v, .string holder, u] w (RetB w true) := by
  have HAW := Lib.hid (fun W => awake_any W)
  have HLO := Lib.hid (long_any l v w hs hf)
  have HHV := Lib.hid (fun W (hW : Below w.heap.size w W) => heavy_any lots u W (hs2.below hW (Nat.le_refl _)))
  cases hlr : longR l
  · rw [hlr] at HLO
    obtain ⟨hsm, hlen⟩ := longR_small hlr
    have HPL := Lib.hid (fun W (hW : Below w.heap.size w W) => play_any ⟨#[115, 116, 111, 114, 101]⟩ l v W (hs.below hW) hf hsm hlen)
    have HNM := Lib.hid (playH_name ⟨⟨#[115, 116, 111, 114, 101]⟩, [], []⟩ (ropsOf l))
    have HOK := Lib.hid (playOk (nm := ⟨#[115, 116, 111, 114, 101]⟩) hlen)
    generalize playH ⟨⟨#[115, 116, 111, 114, 101]⟩, [], []⟩ (ropsOf l) = hq at *
    simp only at HNM
    clear hlr hs hf hsm hlen
    by_cases h60 : (60 : Int) < (holder.size : Int)
    · have t60 : decide ((60 : Int) < (holder.size : Int)) = true := decide_eq_true h60
      clear h60 hs2 hf2
      go_enter Try.func5, Try.ntmps5
      go_wp2_with (first
        | ((with_reducible refine HLO.out.mono ?_); rintro e w1 ⟨rfl, hb1⟩; have HB := Lib.hid hb1; clear hb1)
        | ((with_reducible refine (HAW.out _).mono ?_); rintro e w9 ⟨rfl, hb9⟩; have HB := Lib.hid (HB.out.trans (hb9.mono HB.out.size)); clear hb9)
        | fail)
      go_ret
      exact retB rfl HB.out
    · have t60 : decide ((60 : Int) < (holder.size : Int)) = false := decide_eq_false h60
      have hm9 : holder.size ≤ 9223372036854775807 := by simp only [maxLen] at hho; omega
      clear h60
      cases hhv : heavyR lots
      rotate_left
      · rw [hhv] at HHV
        clear hhv hs2 hf2
        go_enter Try.func5, Try.ntmps5
        go_wp2_with (first
          | ((with_reducible refine HLO.out.mono ?_); rintro e w1 ⟨rfl, hb1⟩; have HB := Lib.hid hb1; clear hb1)
          | ((with_reducible refine (HHV.out _ HB.out).mono ?_); rintro e w11 ⟨rfl, hb11⟩; have HB := Lib.hid (HB.out.trans (hb11.mono HB.out.size)); clear hb11)
          | ((with_reducible refine (HAW.out _).mono ?_); rintro e w9 ⟨rfl, hb9⟩; have HB := Lib.hid (HB.out.trans (hb9.mono HB.out.size)); clear hb9)
          | fail)
        go_ret
        exact retB rfl HB.out
      · rw [hhv] at HHV
        have HLK := Lib.hid (fun bh bm bu W x (h : Hsx W bh bm bu hq) (r : RefH W x hq) => like_any x W h r HOK.out (by decide))
        have HRS := Lib.hid (fun W (hW : Below w.heap.size w W) => refStore_any (h := ⟨⟨#[]⟩, [], []⟩) (.agg #[.string ⟨#[]⟩, .slice none 0 0, .slice none 0 0]) ⟨#[110]⟩ holder 0 lots u W (zeroRef W) (by decide) hm9 (hs2.below hW (Nat.le_refl _)) hf2 (by simp) (by simp))
        by_cases hc0 : storeC ⟨⟨#[]⟩, [], []⟩ ⟨#[110]⟩ holder 0 lots = 0
        rotate_left
        · have t0 : (storeC ⟨⟨#[]⟩, [], []⟩ ⟨#[110]⟩ holder 0 lots != 0) = true := by simp [hc0]
          clear hhv hs2 hf2 hc0
          go_enter Try.func5, Try.ntmps5
          go_wp2_with (first
            | ((with_reducible refine HLO.out.mono ?_); rintro e w1 ⟨rfl, hb1⟩; have HB := Lib.hid hb1; clear hb1)
            | ((with_reducible refine (HHV.out _ HB.out).mono ?_); rintro e w11 ⟨rfl, hb11⟩; have HB := Lib.hid (HB.out.trans (hb11.mono HB.out.size)); clear hb11)
            | ((with_reducible refine (HPL.out _ HB.out).mono ?_); rintro e w2 ⟨bh, bm, bu, x, rfl, hh2, hr2, hge2, hb2⟩; obtain ⟨a1, m1, c1, a2, m2, c2, ex⟩ := hr2.shape; subst ex; rw [HNM.out] at hr2 ⊢; have hbn := one_below w2 (.cells #[.string ⟨#[115, 116, 111, 114, 101]⟩, .slice a1 m1 c1, .slice a2 m2 c2] 35); have HX := Lib.hid (heap_alloc_new w2 (.cells #[.string ⟨#[115, 116, 111, 114, 101]⟩, .slice a1 m1 c1, .slice a2 m2 c2] 35)); have HGE : Hid (w.heap.size ≤ bh ∧ w.heap.size ≤ bm ∧ w.heap.size ≤ bu) := Lib.hid (by have := HB.out.size; omega); have HH := Lib.hid (hh2.below hbn); have HR := Lib.hid (hr2.below hbn); have HB := Lib.hid (HB.out.trans ((hb2.trans (hbn.mono hb2.size)).mono HB.out.size)); clear hh2 hr2 hge2 hb2 hbn)
            | ((with_reducible refine (HRS.out _ HB.out).mono ?_); rintro e w3 ⟨hb3, y, rfl, hr3⟩; obtain ⟨a3, m3, c3, a4, m4, c4, ey⟩ := hr3.shape; subst ey; have HB := Lib.hid (HB.out.trans (hb3.mono HB.out.size)); have HH := Lib.hid (HH.out.below hb3); have HR := Lib.hid (HR.out.below hb3); have HX := Lib.hid (blk hb3 (lt_blk HX.out) HX.out); have hbn := one_below w3 (.cells #[.string (storeH ⟨⟨#[]⟩, [], []⟩ ⟨#[110]⟩ holder 0 lots).name, .slice a3 m3 c3, .slice a4 m4 c4] 35); have HB := Lib.hid (HB.out.trans (hbn.mono HB.out.size)); have HH := Lib.hid (HH.out.below hbn); have HR := Lib.hid (HR.out.below hbn); have HX := Lib.hid (blk hbn (lt_blk HX.out) HX.out); obtain ⟨z0, z1, z2⟩ := cells3_blk HX.out; clear hb3 hr3 hbn)
            | ((with_reducible refine (HAW.out _).mono ?_); rintro e w9 ⟨rfl, hb9⟩; have HB := Lib.hid (HB.out.trans (hb9.mono HB.out.size)); clear hb9)
            | fail)
          go_ret
          exact retB rfl HB.out
        · have t0 : (storeC ⟨⟨#[]⟩, [], []⟩ ⟨#[110]⟩ holder 0 lots != 0) = false := by simp [hc0]
          obtain ⟨-, n2, n3, -, -, n4⟩ := storeC_zero hc0
          have HS2 := Lib.hid hs2
          have HN2 := Lib.hid (And.intro n2 n3)
          clear hhv hs2 hf2 hc0 n2 n3 n4
          go_enter Try.func5, Try.ntmps5
          go_wp2_with (first
            | ((with_reducible refine HLO.out.mono ?_); rintro e w1 ⟨rfl, hb1⟩; have HB := Lib.hid hb1; clear hb1)
            | ((with_reducible refine (HHV.out _ HB.out).mono ?_); rintro e w11 ⟨rfl, hb11⟩; have HB := Lib.hid (HB.out.trans (hb11.mono HB.out.size)); clear hb11)
            | ((with_reducible refine (HPL.out _ HB.out).mono ?_); rintro e w2 ⟨bh, bm, bu, x, rfl, hh2, hr2, hge2, hb2⟩; obtain ⟨a1, m1, c1, a2, m2, c2, ex⟩ := hr2.shape; subst ex; rw [HNM.out] at hr2 ⊢; have hbn := one_below w2 (.cells #[.string ⟨#[115, 116, 111, 114, 101]⟩, .slice a1 m1 c1, .slice a2 m2 c2] 35); have HX := Lib.hid (heap_alloc_new w2 (.cells #[.string ⟨#[115, 116, 111, 114, 101]⟩, .slice a1 m1 c1, .slice a2 m2 c2] 35)); have HGE : Hid (w.heap.size ≤ bh ∧ w.heap.size ≤ bm ∧ w.heap.size ≤ bu) := Lib.hid (by have := HB.out.size; omega); have HH := Lib.hid (hh2.below hbn); have HR := Lib.hid (hr2.below hbn); have HB := Lib.hid (HB.out.trans ((hb2.trans (hbn.mono hb2.size)).mono HB.out.size)); clear hh2 hr2 hge2 hb2 hbn)
            | ((with_reducible refine (HRS.out _ HB.out).mono ?_); rintro e w3 ⟨hb3, y, rfl, hr3⟩; obtain ⟨a3, m3, c3, a4, m4, c4, ey⟩ := hr3.shape; subst ey; have HB := Lib.hid (HB.out.trans (hb3.mono HB.out.size)); have HH := Lib.hid (HH.out.below hb3); have HR := Lib.hid (HR.out.below hb3); have HX := Lib.hid (blk hb3 (lt_blk HX.out) HX.out); have hbn := one_below w3 (.cells #[.string (storeH ⟨⟨#[]⟩, [], []⟩ ⟨#[110]⟩ holder 0 lots).name, .slice a3 m3 c3, .slice a4 m4 c4] 35); have HB := Lib.hid (HB.out.trans (hbn.mono HB.out.size)); have HH := Lib.hid (HH.out.below hbn); have HR := Lib.hid (HR.out.below hbn); have HX := Lib.hid (blk hbn (lt_blk HX.out) HX.out); obtain ⟨z0, z1, z2⟩ := cells3_blk HX.out; clear hb3 hr3 hbn)
            | fail)
          have HU0 := HR.out.usedSl
          have HM2 : Hid (m2 = hq.used.length) := Lib.hid (by
            obtain ⟨_, _, hm2⟩ := HU0.shape
            simpa using (Value.slice.inj hm2).2.1)
          have hml : m2 ≤ 9223372036854775807 := by have := HOK.out.ul; have := HM2.out; omega
          obtain ⟨bx, hbx⟩ : ∃ b, b = w2.heap.size := ⟨_, rfl⟩
          rw [← hbx] at HX ⊢
          have HIN := Lib.hid HU0
          obtain ⟨wy, hwy⟩ : ∃ W : World, W = w3.alloc (.cells #[.string (storeH ⟨⟨#[]⟩, [], []⟩ ⟨#[110]⟩ holder 0 lots).name, .slice a3 m3 c3, .slice a4 m4 c4] 35) := ⟨_, rfl⟩
          rw [← hwy] at HH HR HX HB ⊢
          clear HU0 hbx hwy z0 z1 z2 HIN
          go_loopw [12, 45] (fun _ i wr => ∃ (k : Nat), k ≤ m2 ∧ i = .int .i64 k ∧ Hsx wr bh bm bu hq ∧ RefH wr (.agg #[.string ⟨#[115, 116, 111, 114, 101]⟩, .slice a1 m1 c1, .slice a2 m2 c2]) hq ∧
            wr.heap[bx]? = some (.cells #[.string ⟨#[115, 116, 111, 114, 101]⟩, .slice a1 m1 c1, .slice a2 m2 c2] 35 (0, 0)) ∧ Below w.heap.size w wr) (fun _ i _ => m2 - (intOf i).toNat)
          case atStart => exact ⟨0, Nat.zero_le _, rfl, HH.out, HR.out, HX.out, HB.out⟩
          case round =>
            obtain ⟨k, hk, rfl, hhz, hrz, hxz, hbel⟩ := hrel
            have HBZ := Lib.hid hbel
            have HHZ := Lib.hid hhz
            have HRZ := Lib.hid hrz
            have HXZ := Lib.hid hxz
            by_cases hlt : k < m2
            · have hlt' : k < hq.used.length := by have := HM2.out; omega
              obtain ⟨b, off, rfl, -, hb, hc⟩ := hrz.usedSl.at (i := k) (by simpa using hlt')
              have d0 : wr.cell? ⟨b, off + k * 1, none⟩ = some (.string hq.used[k]) := hc k (stRow hq.used[k]) (by simp [hlt']) 0 _ rfl
              rw [Nat.mul_one] at d0
              have hmem := List.getElem_mem hlt'
              generalize hq.used[k] = xn at *
              have HST : Hid (∀ W, Hsx W bh bm bu hq → Below w.heap.size w W → Calls Try.prog 20 #[.pointer (some ⟨bh, 0, none⟩), .string xn, .string holder, .int .i64 0, u] W (HsP W bh bm bu hq 5)) := Lib.hid (fun W h1 h2 => by
                obtain ⟨e1, e2⟩ := store_used (h := hq) (HOK.out.nm xn hmem) HN2.out.1 HN2.out.2 hmem
                have := storeH_any xn holder 0 lots u W h1 HOK.out (HS2.out.below h2 (Nat.le_refl _)) (by have := HOK.out.ul; omega)
                rw [e1, e2] at this
                exact this)
              clear hb hc hmem hhz hrz hxz hbel
              go_wp2_with (first
                | ((with_reducible refine (HST.out _ HHZ.out HBZ.out).mono ?_); rintro e w6 ⟨rfl, hk6, hh6⟩; have HMP := Lib.hid HHZ.out.maps; have HB6 := Lib.hid (hk6.behind HBZ.out HBZ.out.size (fun q hq e => by have := HGE.out; omega)); have HH6 := Lib.hid hh6; have HR6 := Lib.hid (HRZ.out.keepM hk6 HMP.out); have HX6 := Lib.hid (keep_blk hk6 HMP.out HXZ.out (by simp)); clear hk6 hh6)
                | fail)
              go_roundw
              case rel => exact ⟨k + 1, by omega, by go_num, HH6.out, HR6.out, HX6.out, HB6.out⟩
              case measure => (simp [intOf]) <;> omega
            · clear hhz hrz hxz hbel
              obtain ⟨z0, z1, z2⟩ := cells3_blk HXZ.out
              go_wp2_with (first
                | ((with_reducible refine (HLK.out _ _ _ _ _ HHZ.out HRZ.out).mono ?_); rintro e w8 ⟨rfl, hb8⟩; have HB := Lib.hid (HBZ.out.trans (hb8.mono HBZ.out.size)); clear hb8)
                | ((with_reducible refine (HAW.out _).mono ?_); rintro e w9 ⟨rfl, hb9⟩; have HB := Lib.hid (HB.out.trans (hb9.mono HB.out.size)); clear hb9)
                | fail)
              go_ret
              exact retB rfl HB.out
  · rw [hlr] at HLO
    clear hlr hs hf hs2 hf2
    go_enter Try.func5, Try.ntmps5
    go_wp2_with (first
      | ((with_reducible refine HLO.out.mono ?_); rintro e w1 ⟨rfl, hb1⟩; have HB := Lib.hid hb1; clear hb1)
      | ((with_reducible refine (HAW.out _).mono ?_); rintro e w9 ⟨rfl, hb9⟩; have HB := Lib.hid (HB.out.trans (hb9.mono HB.out.size)); clear hb9)
      | fail)
    go_ret
    exact retB rfl HB.out

theorem lifted (os : Os) (started : os.Started) (H : Type) (enc : TypeId × Value → H) :
    ReturnsInHanded {} Try.checked os 5 .any (Rows.receiptNumbersSpec.pre6 enc Try.prog Try.f5 Rows.receiptNumbersRow.domain false) (Rows.receiptNumbersSpec.post enc Try.prog Try.f5 false true false false) := by
  refine law_lifted os started (by kernel_rfl) Try.func5
    (ChangeSpec.witness6 (enc := enc) (C := Try.checked) false ⟨#[], #[.slice none 0 0, .string ⟨#[]⟩, .slice none 0 0], []⟩ 8 (by kernel_rfl) (by kernel_rfl) (by kernel_rfl) (by kernel_rfl))
    (by kernel_rfl) rfl rfl ?_ ?_
  · intro vs ds W p hA
    rw [Try.params5] at hA
    obtain ⟨v0, vs0, d0, ds0, p0, q0, rfl, rfl, rfl, h0, r0⟩ := trodAll_cons hA
    obtain ⟨v1, vs1, d1, ds1, p1, q1, rfl, rfl, rfl, h1, r1⟩ := trodAll_cons r0
    obtain ⟨v2, vs2, d2, ds2, p2, q2, rfl, rfl, rfl, h2, r2⟩ := trodAll_cons r1
    obtain ⟨rfl, rfl, rfl⟩ := trodAll_nil r2
    rfl
  · intro W base args ds p hval hA
    rw [Try.params5] at hA hval
    obtain ⟨v0, vs0, d0, ds0, p0, q0, hargs, rfl, rfl, h0, r0⟩ := trodAll_cons hA
    obtain ⟨v1, vs1, d1, ds1, p1, q1, rfl, rfl, rfl, h1, r1⟩ := trodAll_cons r0
    obtain ⟨v2, vs2, d2, ds2, p2, q2, rfl, rfl, rfl, h2, r2⟩ := trodAll_cons r1
    obtain ⟨rfl, rfl, rfl⟩ := trodAll_nil r2
    obtain rfl : args = #[v0, v1, v2] := by cases args; simp_all
    obtain ⟨l0, hs0, hf0⟩ := open_ops25 (hval 0 22 v0 rfl rfl) h0
    obtain ⟨a1, rfl, rfl, rfl, w1⟩ := Go.ChangeMaps.open_string Try.underlying9 (hval 1 9 v1 rfl rfl) h1
    obtain ⟨l2, hs2, hf2⟩ := open_lots25 (hval 2 27 v2 rfl rfl) h2
    exact walk W l0 v0 hs0 hf0 a1 w1 l2 v2 hs2 hf2

theorem over : Rows.receiptNumbersRow.holds Try.pinned (OpenSpec.ofChange Rows.receiptNumbersSpec) :=
  OpenClaim.holds_of_wide 5 Try.f5 rfl rfl rfl rfl rfl rfl rfl ⟨rfl, rfl, rfl, rfl, rfl⟩ rfl rfl rfl rfl rfl (by kernel_rfl) Try.func5 (by kernel_rfl)
    (of_decide_eq_true (by kernel_rfl)) (by unfold Func.isWrapper; rw [if_neg (by decide +kernel)]; exact ⟨rfl, rfl⟩)
    (fun os started H enc _ => lifted os started H enc)

/-- The statement. -/
theorem proved : Rows.ReceiptNumbersSaid := over
#print axioms proved
end Go.Proofs.Yticnmmfiadpbbaa.receiptNumbers
