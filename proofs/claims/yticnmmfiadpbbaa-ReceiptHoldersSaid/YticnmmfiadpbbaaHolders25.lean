/- What somebody does who doesn't hold it changes no receipt. No condition. -/
import Derived.Test.YticnmmfiadpbbaaCharges25
namespace Go.Proofs.Yticnmmfiadpbbaa.Sc
open Go Go.RowKit
theorem ops_new (w : World) (o : Opv) (h : o.at w) : OpsAt (w.alloc (.cells o.cells 31)) (.slice (some ⟨w.heap.size, 0, none⟩) 1 1) [o] := by
  have hx := heap_alloc_new w (.cells o.cells 31)
  refine ⟨.inr ⟨w.heap.size, 0, 1, rfl, lt_blk hx, by simp, by decide, fun i r hr j u hu => ?_⟩, fun q hq => ?_⟩
  · match i, hr with
    | 0, hr =>
      obtain rfl : o.row = r := by simpa using hr
      refine (cell_blk hx _).trans ?_
      rw [Opv.row, Array.getElem?_toList] at hu
      simpa using hu
    | m + 1, hr => simp at hr
  · obtain rfl := List.mem_singleton.1 hq
    exact h.below (one_below _ _)
/-- Who doesn't hold it: what each call tells. -/
theorem other_holder {h : Hs} {o : Rop} (hk : o.kind = 2 ∨ o.kind = 3 ∨ o.kind = 4) (hn : ownC h o.num o.by' ≠ 0) : opC h o = ownC h o.num o.by' ∧ opH h o = h := by
  have hp : partC h o.num o.by' o.nums o.parts = ownC h o.num o.by' := by
    unfold ownC at hn
    unfold partC ownC
    cases hr : rfind h.L o.num with
    | none => rfl
    | some r =>
      rw [hr] at hn
      by_cases hb : r.hold = o.by'
      · exact absurd (if_pos hb) hn
      · simp only [if_neg hb]
  have ht : outC h o.num o.by' o.lots = ownC h o.num o.by' := by
    unfold ownC at hn
    unfold outC ownC
    cases hr : rfind h.L o.num with
    | none => rfl
    | some r =>
      rw [hr] at hn
      by_cases hb : r.hold = o.by'
      · exact absurd (if_pos hb) hn
      · simp only [if_neg hb]
  have hs : passC h o.num o.by' o.to' = ownC h o.num o.by' := if_neg hn
  have hs2 : passH h o.num o.by' o.to' = h := if_neg (by rw [hs]; exact hn)
  have hp2 : partH h o.num o.by' o.nums o.parts = h := if_neg (by rw [hp]; exact hn)
  have ht2 : outH h o.num o.by' o.lots = h := if_neg (by rw [ht]; exact hn)
  unfold opC opH
  rcases hk with hk | hk | hk <;> rw [hk]
  · exact ⟨hs, hs2⟩
  · exact ⟨hp, hp2⟩
  · exact ⟨ht, ht2⟩
end Go.Proofs.Yticnmmfiadpbbaa.Sc
namespace Go.Proofs.Yticnmmfiadpbbaa.receiptHolders
open Go.ChangeShapes Go.WideShapes Go.ChangeAt Go.RowKit Go Sc
set_option maxRecDepth 100000

set_option maxHeartbeats 16000000 in
theorem walk (w : World) (l : List Opv) (v : Value) (hs : OpsAt w v l) (hf : ∀ o ∈ l, o.fit) (o : Opv) (hs2 : o.at w) (hf2 : o.fit) :
    Calls Try.prog 4 #[v, .agg o.cells] w (RetB w true) := by
  have HAW := Lib.hid (fun W => awake_any W)
  have HL20 := Lib.hid (fun W (hW : Below w.heap.size w W) => long_any [o] _ _ (ops_new W o (hs2.below hW)) (fun q hq => by rw [List.mem_singleton.1 hq]; exact hf2))
  have hsm2 : longR [o] = false → o.small := fun h => (longR_small h).1 o List.mem_cons_self
  obtain ⟨B2, hB2⟩ : ∃ B, B = longR [o] := ⟨_, rfl⟩
  rw [← hB2] at HL20 hsm2
  have HDO0 := fun (bh bm bu : Nat) (hq : Hs) (hok : HsOk 20 hq) (sm : o.small) (W : World) (h : Hsx W bh bm bu hq) (hW : Below w.heap.size w W) => do_any o (.agg #[.string ⟨#[]⟩, .slice none 0 0, .slice none 0 0]) W h (zeroRef W) hok ((hsOk_nil _).mono (Nat.zero_le _)) (hs2.below hW) hf2 sm (by decide)
  have HOT := fun (hq : Hs) => other_holder (h := hq) (o := o.rop)
  obtain ⟨xk, xn, xb, xt, xd, xl, xs, xp, lv, nv, pv⟩ := o
  obtain ⟨al, cl, rfl⟩ : ∃ a c, lv = .slice a xl.length c := by simpa using hs2.1.shape
  obtain ⟨an, cn, rfl⟩ : ∃ a c, nv = .slice a xs.length c := by simpa using hs2.2.1.shape
  obtain ⟨ap, cp, rfl⟩ : ∃ a c, pv = .slice a xp.length c := by simpa using hs2.2.2.1.shape
  have HL2 : Hid (∀ W, Below w.heap.size w W → Calls Try.prog 8 #[.slice (some ⟨W.heap.size, 0, none⟩) 1 1] (W.alloc (.cells #[.int .i64 xk, .string xn, .string xb, .string xt, .int .i64 xd, .slice al xl.length cl, .slice an xs.length cn, .slice ap xp.length cp] 31)) (RetB (W.alloc (.cells #[.int .i64 xk, .string xn, .string xb, .string xt, .int .i64 xd, .slice al xl.length cl, .slice an xs.length cn, .slice ap xp.length cp] 31)) B2)) := Lib.hid (fun W hW => HL20.out W hW)
  have HO0 := Lib.hid (heap_alloc_new w (.cells #[.int .i64 xk, .string xn, .string xb, .string xt, .int .i64 xd, .slice al xl.length cl, .slice an xs.length cn, .slice ap xp.length cp] 31))
  have HB0 := Lib.hid (one_below w (.cells #[.int .i64 xk, .string xn, .string xb, .string xt, .int .i64 xd, .slice al xl.length cl, .slice an xs.length cn, .slice ap xp.length cp] 31))
  have HLO := Lib.hid (long_any l v (w.alloc (.cells #[.int .i64 xk, .string xn, .string xb, .string xt, .int .i64 xd, .slice al xl.length cl, .slice an xs.length cn, .slice ap xp.length cp] 31)) (hs.below HB0.out) hf)
  simp only [Opv.cells]
  clear HL20 hB2
  cases hlr : longR l
  · rw [hlr] at HLO
    obtain ⟨hsm, hlen⟩ := longR_small hlr
    have HPL := Lib.hid (fun W (hW : Below w.heap.size w W) => play_any ⟨#[115, 116, 111, 114, 101]⟩ l v W (hs.below hW) hf hsm hlen)
    have HNM := Lib.hid (playH_name ⟨⟨#[115, 116, 111, 114, 101]⟩, [], []⟩ (ropsOf l))
    have HOK := Lib.hid (playOk (nm := ⟨#[115, 116, 111, 114, 101]⟩) hlen)
    generalize playH ⟨⟨#[115, 116, 111, 114, 101]⟩, [], []⟩ (ropsOf l) = hq at *
    simp only at HNM
    clear hlr hs hf hsm hlen
    cases B2
    rotate_left
    · clear hs2 hf2 HDO0 HOT hsm2
      go_enter Try.func4, Try.ntmps4
      go_wp2_with (first
        | ((with_reducible refine HLO.out.mono ?_); rintro e w1 ⟨rfl, hb1⟩; have HB := Lib.hid (HB0.out.trans (hb1.mono HB0.out.size)); have HO := Lib.hid (blk hb1 (lt_blk HO0.out) HO0.out); obtain ⟨x0, x1, x2, x3, x4, x5, x6, x7⟩ := cells8 HO.out; clear hb1)
        | ((with_reducible refine (HL2.out _ HB.out).mono ?_); rintro e w12 ⟨rfl, hb12⟩; have hbq := (one_below w1 (.cells #[.int .i64 xk, .string xn, .string xb, .string xt, .int .i64 xd, .slice al xl.length cl, .slice an xs.length cn, .slice ap xp.length cp] 31)).trans (hb12.mono (one_below w1 (.cells #[.int .i64 xk, .string xn, .string xb, .string xt, .int .i64 xd, .slice al xl.length cl, .slice an xs.length cn, .slice ap xp.length cp] 31)).size); have HB := Lib.hid (HB.out.trans (hbq.mono HB.out.size)); have HO := Lib.hid (blk hbq (lt_blk HO.out) HO.out); clear hb12 hbq x0 x1 x2 x3 x4 x5 x6 x7)
        | ((with_reducible refine (HAW.out _).mono ?_); rintro e w9 ⟨rfl, hb9⟩; have HB := Lib.hid (HB.out.trans (hb9.mono HB.out.size)); clear hb9)
        | fail)
      go_ret
      exact retB rfl HB.out
    · have HLK := Lib.hid (fun bh bm bu W x (h : Hsx W bh bm bu hq) (r : RefH W x hq) => like_any x W h r HOK.out (by decide))
      have HDO1 := fun bh bm bu W h hW => HDO0 bh bm bu hq HOK.out (hsm2 rfl) W h hW
      have HOT1 := HOT hq
      obtain ⟨⟨gn, gh, go, gl, gd⟩, hgr⟩ : ∃ r, getR hq xn = r := ⟨_, rfl⟩
      obtain ⟨ok, hgo⟩ : ∃ b, thereB hq xn = b := ⟨_, rfl⟩
      have HGET : Hid (∀ bh bm bu W, Hsx W bh bm bu hq → Calls Try.prog 16 #[.pointer (some ⟨bh, 0, none⟩), .string xn] W (fun e w' => Below W.heap.size W w' ∧ ∃ lv, e = .returned (.tuple #[.agg #[.string gn, .string gh, .string go, lv, .int .i64 gd], .bool ok]) ∧ Sl w' 2 lv (gl.map Lt.row))) := Lib.hid (fun bh bm bu W h => by
        have := getH_any xn W h HOK.out
        unfold GetHP at this
        rw [hgr, hgo] at this
        exact this)
      have hown : ownC hq xn xb = if ok = true then (if go = xb then 0 else 8) else 4 := by
        unfold ownC
        unfold thereB at hgo
        unfold getR at hgr
        cases hr : rfind hq.L xn with
        | none => rw [hr] at hgo; rw [← hgo]; rfl
        | some r =>
          rw [hr] at hgo hgr
          rw [← hgo]
          have : r = ⟨gn, gh, go, gl, gd⟩ := hgr
          rw [this]; rfl
      have tg : (go.toList == xb.toList) = decide (go = xb) := by
        rw [Bool.eq_iff_iff]
        simp only [beq_iff_eq, decide_eq_true_eq]
        exact ⟨fun e => by rw [ByteArray.toList_eq, ByteArray.toList_eq] at e; cases go; cases xb; congr; exact Array.toList_inj.1 e, fun e => by rw [e]⟩
      obtain ⟨G, hG⟩ : ∃ G, G = decide (go = xb) := ⟨_, rfl⟩
      rw [← hG] at tg
      have hown2 : ownC hq xn xb = if ok = true then (if G = true then 0 else 8) else 4 := by rw [hown, hG]; simp only [decide_eq_true_eq]
      clear hgr hgo hown hG HDO0 HOT hsm2 hs2 hf2
      have hall : (ok = true ∧ G = true) ∨ ((ok = false ∨ G = false) ∧ (xk < 2 ∨ (¬ xk < 2 ∧ 4 < xk) ∨ (¬ xk < 2 ∧ ¬ 4 < xk))) := by
        cases ok <;> cases G <;> simp <;> omega
      rcases hall with ⟨rfl, rfl⟩ | ⟨hno, hk | ⟨hk1, hk2⟩ | ⟨hk1, hk2⟩⟩
      · clear hown2 HOT1 HDO1
        go_enter Try.func4, Try.ntmps4
        go_wp2_with (first
          | ((with_reducible refine HLO.out.mono ?_); rintro e w1 ⟨rfl, hb1⟩; have HB := Lib.hid (HB0.out.trans (hb1.mono HB0.out.size)); have HO := Lib.hid (blk hb1 (lt_blk HO0.out) HO0.out); obtain ⟨x0, x1, x2, x3, x4, x5, x6, x7⟩ := cells8 HO.out; clear hb1)
          | ((with_reducible refine (HL2.out _ HB.out).mono ?_); rintro e w12 ⟨rfl, hb12⟩; have hbq := (one_below w1 (.cells #[.int .i64 xk, .string xn, .string xb, .string xt, .int .i64 xd, .slice al xl.length cl, .slice an xs.length cn, .slice ap xp.length cp] 31)).trans (hb12.mono (one_below w1 (.cells #[.int .i64 xk, .string xn, .string xb, .string xt, .int .i64 xd, .slice al xl.length cl, .slice an xs.length cn, .slice ap xp.length cp] 31)).size); have HB := Lib.hid (HB.out.trans (hbq.mono HB.out.size)); have HO := Lib.hid (blk hbq (lt_blk HO.out) HO.out); clear hb12 hbq x0 x1 x2 x3 x4 x5 x6 x7)
          | ((with_reducible refine (HPL.out _ HB.out).mono ?_); rintro e w2 ⟨bh, bm, bu, x, rfl, hh2, hr2, hge2, hb2⟩; obtain ⟨a1, m1, c1, a2, m2, c2, ex⟩ := hr2.shape; subst ex; rw [HNM.out] at hr2 ⊢; have hbn := one_below w2 (.cells #[.string ⟨#[115, 116, 111, 114, 101]⟩, .slice a1 m1 c1, .slice a2 m2 c2] 35); have HX := Lib.hid (heap_alloc_new w2 (.cells #[.string ⟨#[115, 116, 111, 114, 101]⟩, .slice a1 m1 c1, .slice a2 m2 c2] 35)); have HGE : Hid (w.heap.size ≤ bh ∧ w.heap.size ≤ bm ∧ w.heap.size ≤ bu) := Lib.hid (by have := HB.out.size; omega); have HH := Lib.hid (hh2.below hbn); have HR := Lib.hid (hr2.below hbn); have HB := Lib.hid (HB.out.trans ((hb2.trans (hbn.mono hb2.size)).mono HB.out.size)); have hbo := hb2.trans (hbn.mono hb2.size); have HO := Lib.hid (blk hbo (lt_blk HO.out) HO.out); obtain ⟨x0, x1, x2, x3, x4, x5, x6, x7⟩ := cells8 HO.out; clear hh2 hr2 hge2 hb2 hbn hbo)
          | ((with_reducible refine (HGET.out _ _ _ _ HH.out).mono ?_); rintro e w5 ⟨hb5, lv, rfl, hs5⟩; obtain ⟨ag, cg, rfl⟩ : ∃ a c, lv = .slice a gl.length c := (by simpa using hs5.shape); clear x0 x1 x2 x3 x4 x5 x6 x7; have hb6 := one_below w5 (.cells #[.string gn, .string gh, .string go, .slice ag gl.length cg, .int .i64 gd] 45); have HO5 := Lib.hid (blk hb5 (lt_blk HO.out) HO.out); obtain ⟨x0, x1, x2, x3, x4, x5, x6, x7⟩ := cells8 HO5.out; have xl5 := lt_blk HO5.out; have HB := Lib.hid (HB.out.trans (hb5.mono HB.out.size)); have HH := Lib.hid (HH.out.below hb5); have HR := Lib.hid (HR.out.below hb5); have HX := Lib.hid (blk hb5 (lt_blk HX.out) HX.out); have HO := Lib.hid (blk hb6 (lt_blk HO5.out) HO5.out); have HB := Lib.hid (HB.out.trans (hb6.mono HB.out.size)); have HH := Lib.hid (HH.out.below hb6); have HR := Lib.hid (HR.out.below hb6); have HX := Lib.hid (blk hb6 (lt_blk HX.out) HX.out); clear hb5 hb6 hs5)
          | ((with_reducible refine (HAW.out _).mono ?_); rintro e w9 ⟨rfl, hb9⟩; have HB := Lib.hid (HB.out.trans (hb9.mono HB.out.size)); clear hb9)
          | fail)
        go_ret
        exact retB rfl HB.out
      · have t2 : decide (xk < 2) = true := decide_eq_true hk
        clear hown2 HOT1 HDO1 hk
        rcases hno with rfl | rfl
        · skip
          go_enter Try.func4, Try.ntmps4
          go_wp2_with (first
            | ((with_reducible refine HLO.out.mono ?_); rintro e w1 ⟨rfl, hb1⟩; have HB := Lib.hid (HB0.out.trans (hb1.mono HB0.out.size)); have HO := Lib.hid (blk hb1 (lt_blk HO0.out) HO0.out); obtain ⟨x0, x1, x2, x3, x4, x5, x6, x7⟩ := cells8 HO.out; clear hb1)
            | ((with_reducible refine (HL2.out _ HB.out).mono ?_); rintro e w12 ⟨rfl, hb12⟩; have hbq := (one_below w1 (.cells #[.int .i64 xk, .string xn, .string xb, .string xt, .int .i64 xd, .slice al xl.length cl, .slice an xs.length cn, .slice ap xp.length cp] 31)).trans (hb12.mono (one_below w1 (.cells #[.int .i64 xk, .string xn, .string xb, .string xt, .int .i64 xd, .slice al xl.length cl, .slice an xs.length cn, .slice ap xp.length cp] 31)).size); have HB := Lib.hid (HB.out.trans (hbq.mono HB.out.size)); have HO := Lib.hid (blk hbq (lt_blk HO.out) HO.out); clear hb12 hbq x0 x1 x2 x3 x4 x5 x6 x7)
            | ((with_reducible refine (HPL.out _ HB.out).mono ?_); rintro e w2 ⟨bh, bm, bu, x, rfl, hh2, hr2, hge2, hb2⟩; obtain ⟨a1, m1, c1, a2, m2, c2, ex⟩ := hr2.shape; subst ex; rw [HNM.out] at hr2 ⊢; have hbn := one_below w2 (.cells #[.string ⟨#[115, 116, 111, 114, 101]⟩, .slice a1 m1 c1, .slice a2 m2 c2] 35); have HX := Lib.hid (heap_alloc_new w2 (.cells #[.string ⟨#[115, 116, 111, 114, 101]⟩, .slice a1 m1 c1, .slice a2 m2 c2] 35)); have HGE : Hid (w.heap.size ≤ bh ∧ w.heap.size ≤ bm ∧ w.heap.size ≤ bu) := Lib.hid (by have := HB.out.size; omega); have HH := Lib.hid (hh2.below hbn); have HR := Lib.hid (hr2.below hbn); have HB := Lib.hid (HB.out.trans ((hb2.trans (hbn.mono hb2.size)).mono HB.out.size)); have hbo := hb2.trans (hbn.mono hb2.size); have HO := Lib.hid (blk hbo (lt_blk HO.out) HO.out); obtain ⟨x0, x1, x2, x3, x4, x5, x6, x7⟩ := cells8 HO.out; clear hh2 hr2 hge2 hb2 hbn hbo)
            | ((with_reducible refine (HGET.out _ _ _ _ HH.out).mono ?_); rintro e w5 ⟨hb5, lv, rfl, hs5⟩; obtain ⟨ag, cg, rfl⟩ : ∃ a c, lv = .slice a gl.length c := (by simpa using hs5.shape); clear x0 x1 x2 x3 x4 x5 x6 x7; have hb6 := one_below w5 (.cells #[.string gn, .string gh, .string go, .slice ag gl.length cg, .int .i64 gd] 45); have HO5 := Lib.hid (blk hb5 (lt_blk HO.out) HO.out); obtain ⟨x0, x1, x2, x3, x4, x5, x6, x7⟩ := cells8 HO5.out; have xl5 := lt_blk HO5.out; have HB := Lib.hid (HB.out.trans (hb5.mono HB.out.size)); have HH := Lib.hid (HH.out.below hb5); have HR := Lib.hid (HR.out.below hb5); have HX := Lib.hid (blk hb5 (lt_blk HX.out) HX.out); have HO := Lib.hid (blk hb6 (lt_blk HO5.out) HO5.out); have HB := Lib.hid (HB.out.trans (hb6.mono HB.out.size)); have HH := Lib.hid (HH.out.below hb6); have HR := Lib.hid (HR.out.below hb6); have HX := Lib.hid (blk hb6 (lt_blk HX.out) HX.out); clear hb5 hb6 hs5)
            | ((with_reducible refine (HAW.out _).mono ?_); rintro e w9 ⟨rfl, hb9⟩; have HB := Lib.hid (HB.out.trans (hb9.mono HB.out.size)); clear hb9)
            | fail)
          go_ret
          exact retB rfl HB.out
        · cases ok
          · skip
            go_enter Try.func4, Try.ntmps4
            go_wp2_with (first
              | ((with_reducible refine HLO.out.mono ?_); rintro e w1 ⟨rfl, hb1⟩; have HB := Lib.hid (HB0.out.trans (hb1.mono HB0.out.size)); have HO := Lib.hid (blk hb1 (lt_blk HO0.out) HO0.out); obtain ⟨x0, x1, x2, x3, x4, x5, x6, x7⟩ := cells8 HO.out; clear hb1)
              | ((with_reducible refine (HL2.out _ HB.out).mono ?_); rintro e w12 ⟨rfl, hb12⟩; have hbq := (one_below w1 (.cells #[.int .i64 xk, .string xn, .string xb, .string xt, .int .i64 xd, .slice al xl.length cl, .slice an xs.length cn, .slice ap xp.length cp] 31)).trans (hb12.mono (one_below w1 (.cells #[.int .i64 xk, .string xn, .string xb, .string xt, .int .i64 xd, .slice al xl.length cl, .slice an xs.length cn, .slice ap xp.length cp] 31)).size); have HB := Lib.hid (HB.out.trans (hbq.mono HB.out.size)); have HO := Lib.hid (blk hbq (lt_blk HO.out) HO.out); clear hb12 hbq x0 x1 x2 x3 x4 x5 x6 x7)
              | ((with_reducible refine (HPL.out _ HB.out).mono ?_); rintro e w2 ⟨bh, bm, bu, x, rfl, hh2, hr2, hge2, hb2⟩; obtain ⟨a1, m1, c1, a2, m2, c2, ex⟩ := hr2.shape; subst ex; rw [HNM.out] at hr2 ⊢; have hbn := one_below w2 (.cells #[.string ⟨#[115, 116, 111, 114, 101]⟩, .slice a1 m1 c1, .slice a2 m2 c2] 35); have HX := Lib.hid (heap_alloc_new w2 (.cells #[.string ⟨#[115, 116, 111, 114, 101]⟩, .slice a1 m1 c1, .slice a2 m2 c2] 35)); have HGE : Hid (w.heap.size ≤ bh ∧ w.heap.size ≤ bm ∧ w.heap.size ≤ bu) := Lib.hid (by have := HB.out.size; omega); have HH := Lib.hid (hh2.below hbn); have HR := Lib.hid (hr2.below hbn); have HB := Lib.hid (HB.out.trans ((hb2.trans (hbn.mono hb2.size)).mono HB.out.size)); have hbo := hb2.trans (hbn.mono hb2.size); have HO := Lib.hid (blk hbo (lt_blk HO.out) HO.out); obtain ⟨x0, x1, x2, x3, x4, x5, x6, x7⟩ := cells8 HO.out; clear hh2 hr2 hge2 hb2 hbn hbo)
              | ((with_reducible refine (HGET.out _ _ _ _ HH.out).mono ?_); rintro e w5 ⟨hb5, lv, rfl, hs5⟩; obtain ⟨ag, cg, rfl⟩ : ∃ a c, lv = .slice a gl.length c := (by simpa using hs5.shape); clear x0 x1 x2 x3 x4 x5 x6 x7; have hb6 := one_below w5 (.cells #[.string gn, .string gh, .string go, .slice ag gl.length cg, .int .i64 gd] 45); have HO5 := Lib.hid (blk hb5 (lt_blk HO.out) HO.out); obtain ⟨x0, x1, x2, x3, x4, x5, x6, x7⟩ := cells8 HO5.out; have xl5 := lt_blk HO5.out; have HB := Lib.hid (HB.out.trans (hb5.mono HB.out.size)); have HH := Lib.hid (HH.out.below hb5); have HR := Lib.hid (HR.out.below hb5); have HX := Lib.hid (blk hb5 (lt_blk HX.out) HX.out); have HO := Lib.hid (blk hb6 (lt_blk HO5.out) HO5.out); have HB := Lib.hid (HB.out.trans (hb6.mono HB.out.size)); have HH := Lib.hid (HH.out.below hb6); have HR := Lib.hid (HR.out.below hb6); have HX := Lib.hid (blk hb6 (lt_blk HX.out) HX.out); clear hb5 hb6 hs5)
              | ((with_reducible refine (HAW.out _).mono ?_); rintro e w9 ⟨rfl, hb9⟩; have HB := Lib.hid (HB.out.trans (hb9.mono HB.out.size)); clear hb9)
              | fail)
            go_ret
            exact retB rfl HB.out
          · skip
            go_enter Try.func4, Try.ntmps4
            go_wp2_with (first
              | ((with_reducible refine HLO.out.mono ?_); rintro e w1 ⟨rfl, hb1⟩; have HB := Lib.hid (HB0.out.trans (hb1.mono HB0.out.size)); have HO := Lib.hid (blk hb1 (lt_blk HO0.out) HO0.out); obtain ⟨x0, x1, x2, x3, x4, x5, x6, x7⟩ := cells8 HO.out; clear hb1)
              | ((with_reducible refine (HL2.out _ HB.out).mono ?_); rintro e w12 ⟨rfl, hb12⟩; have hbq := (one_below w1 (.cells #[.int .i64 xk, .string xn, .string xb, .string xt, .int .i64 xd, .slice al xl.length cl, .slice an xs.length cn, .slice ap xp.length cp] 31)).trans (hb12.mono (one_below w1 (.cells #[.int .i64 xk, .string xn, .string xb, .string xt, .int .i64 xd, .slice al xl.length cl, .slice an xs.length cn, .slice ap xp.length cp] 31)).size); have HB := Lib.hid (HB.out.trans (hbq.mono HB.out.size)); have HO := Lib.hid (blk hbq (lt_blk HO.out) HO.out); clear hb12 hbq x0 x1 x2 x3 x4 x5 x6 x7)
              | ((with_reducible refine (HPL.out _ HB.out).mono ?_); rintro e w2 ⟨bh, bm, bu, x, rfl, hh2, hr2, hge2, hb2⟩; obtain ⟨a1, m1, c1, a2, m2, c2, ex⟩ := hr2.shape; subst ex; rw [HNM.out] at hr2 ⊢; have hbn := one_below w2 (.cells #[.string ⟨#[115, 116, 111, 114, 101]⟩, .slice a1 m1 c1, .slice a2 m2 c2] 35); have HX := Lib.hid (heap_alloc_new w2 (.cells #[.string ⟨#[115, 116, 111, 114, 101]⟩, .slice a1 m1 c1, .slice a2 m2 c2] 35)); have HGE : Hid (w.heap.size ≤ bh ∧ w.heap.size ≤ bm ∧ w.heap.size ≤ bu) := Lib.hid (by have := HB.out.size; omega); have HH := Lib.hid (hh2.below hbn); have HR := Lib.hid (hr2.below hbn); have HB := Lib.hid (HB.out.trans ((hb2.trans (hbn.mono hb2.size)).mono HB.out.size)); have hbo := hb2.trans (hbn.mono hb2.size); have HO := Lib.hid (blk hbo (lt_blk HO.out) HO.out); obtain ⟨x0, x1, x2, x3, x4, x5, x6, x7⟩ := cells8 HO.out; clear hh2 hr2 hge2 hb2 hbn hbo)
              | ((with_reducible refine (HGET.out _ _ _ _ HH.out).mono ?_); rintro e w5 ⟨hb5, lv, rfl, hs5⟩; obtain ⟨ag, cg, rfl⟩ : ∃ a c, lv = .slice a gl.length c := (by simpa using hs5.shape); clear x0 x1 x2 x3 x4 x5 x6 x7; have hb6 := one_below w5 (.cells #[.string gn, .string gh, .string go, .slice ag gl.length cg, .int .i64 gd] 45); have HO5 := Lib.hid (blk hb5 (lt_blk HO.out) HO.out); obtain ⟨x0, x1, x2, x3, x4, x5, x6, x7⟩ := cells8 HO5.out; have xl5 := lt_blk HO5.out; have HB := Lib.hid (HB.out.trans (hb5.mono HB.out.size)); have HH := Lib.hid (HH.out.below hb5); have HR := Lib.hid (HR.out.below hb5); have HX := Lib.hid (blk hb5 (lt_blk HX.out) HX.out); have HO := Lib.hid (blk hb6 (lt_blk HO5.out) HO5.out); have HB := Lib.hid (HB.out.trans (hb6.mono HB.out.size)); have HH := Lib.hid (HH.out.below hb6); have HR := Lib.hid (HR.out.below hb6); have HX := Lib.hid (blk hb6 (lt_blk HX.out) HX.out); clear hb5 hb6 hs5)
              | ((with_reducible refine (HAW.out _).mono ?_); rintro e w9 ⟨rfl, hb9⟩; have HB := Lib.hid (HB.out.trans (hb9.mono HB.out.size)); clear hb9)
              | fail)
            go_ret
            exact retB rfl HB.out
      · have t2 : decide (xk < 2) = false := decide_eq_false hk1
        have t4 : decide (4 < xk) = true := decide_eq_true hk2
        clear hown2 HOT1 HDO1 hk1 hk2
        rcases hno with rfl | rfl
        · skip
          go_enter Try.func4, Try.ntmps4
          go_wp2_with (first
            | ((with_reducible refine HLO.out.mono ?_); rintro e w1 ⟨rfl, hb1⟩; have HB := Lib.hid (HB0.out.trans (hb1.mono HB0.out.size)); have HO := Lib.hid (blk hb1 (lt_blk HO0.out) HO0.out); obtain ⟨x0, x1, x2, x3, x4, x5, x6, x7⟩ := cells8 HO.out; clear hb1)
            | ((with_reducible refine (HL2.out _ HB.out).mono ?_); rintro e w12 ⟨rfl, hb12⟩; have hbq := (one_below w1 (.cells #[.int .i64 xk, .string xn, .string xb, .string xt, .int .i64 xd, .slice al xl.length cl, .slice an xs.length cn, .slice ap xp.length cp] 31)).trans (hb12.mono (one_below w1 (.cells #[.int .i64 xk, .string xn, .string xb, .string xt, .int .i64 xd, .slice al xl.length cl, .slice an xs.length cn, .slice ap xp.length cp] 31)).size); have HB := Lib.hid (HB.out.trans (hbq.mono HB.out.size)); have HO := Lib.hid (blk hbq (lt_blk HO.out) HO.out); clear hb12 hbq x0 x1 x2 x3 x4 x5 x6 x7)
            | ((with_reducible refine (HPL.out _ HB.out).mono ?_); rintro e w2 ⟨bh, bm, bu, x, rfl, hh2, hr2, hge2, hb2⟩; obtain ⟨a1, m1, c1, a2, m2, c2, ex⟩ := hr2.shape; subst ex; rw [HNM.out] at hr2 ⊢; have hbn := one_below w2 (.cells #[.string ⟨#[115, 116, 111, 114, 101]⟩, .slice a1 m1 c1, .slice a2 m2 c2] 35); have HX := Lib.hid (heap_alloc_new w2 (.cells #[.string ⟨#[115, 116, 111, 114, 101]⟩, .slice a1 m1 c1, .slice a2 m2 c2] 35)); have HGE : Hid (w.heap.size ≤ bh ∧ w.heap.size ≤ bm ∧ w.heap.size ≤ bu) := Lib.hid (by have := HB.out.size; omega); have HH := Lib.hid (hh2.below hbn); have HR := Lib.hid (hr2.below hbn); have HB := Lib.hid (HB.out.trans ((hb2.trans (hbn.mono hb2.size)).mono HB.out.size)); have hbo := hb2.trans (hbn.mono hb2.size); have HO := Lib.hid (blk hbo (lt_blk HO.out) HO.out); obtain ⟨x0, x1, x2, x3, x4, x5, x6, x7⟩ := cells8 HO.out; clear hh2 hr2 hge2 hb2 hbn hbo)
            | ((with_reducible refine (HGET.out _ _ _ _ HH.out).mono ?_); rintro e w5 ⟨hb5, lv, rfl, hs5⟩; obtain ⟨ag, cg, rfl⟩ : ∃ a c, lv = .slice a gl.length c := (by simpa using hs5.shape); clear x0 x1 x2 x3 x4 x5 x6 x7; have hb6 := one_below w5 (.cells #[.string gn, .string gh, .string go, .slice ag gl.length cg, .int .i64 gd] 45); have HO5 := Lib.hid (blk hb5 (lt_blk HO.out) HO.out); obtain ⟨x0, x1, x2, x3, x4, x5, x6, x7⟩ := cells8 HO5.out; have xl5 := lt_blk HO5.out; have HB := Lib.hid (HB.out.trans (hb5.mono HB.out.size)); have HH := Lib.hid (HH.out.below hb5); have HR := Lib.hid (HR.out.below hb5); have HX := Lib.hid (blk hb5 (lt_blk HX.out) HX.out); have HO := Lib.hid (blk hb6 (lt_blk HO5.out) HO5.out); have HB := Lib.hid (HB.out.trans (hb6.mono HB.out.size)); have HH := Lib.hid (HH.out.below hb6); have HR := Lib.hid (HR.out.below hb6); have HX := Lib.hid (blk hb6 (lt_blk HX.out) HX.out); clear hb5 hb6 hs5)
            | ((with_reducible refine (HAW.out _).mono ?_); rintro e w9 ⟨rfl, hb9⟩; have HB := Lib.hid (HB.out.trans (hb9.mono HB.out.size)); clear hb9)
            | fail)
          go_ret
          exact retB rfl HB.out
        · cases ok
          · skip
            go_enter Try.func4, Try.ntmps4
            go_wp2_with (first
              | ((with_reducible refine HLO.out.mono ?_); rintro e w1 ⟨rfl, hb1⟩; have HB := Lib.hid (HB0.out.trans (hb1.mono HB0.out.size)); have HO := Lib.hid (blk hb1 (lt_blk HO0.out) HO0.out); obtain ⟨x0, x1, x2, x3, x4, x5, x6, x7⟩ := cells8 HO.out; clear hb1)
              | ((with_reducible refine (HL2.out _ HB.out).mono ?_); rintro e w12 ⟨rfl, hb12⟩; have hbq := (one_below w1 (.cells #[.int .i64 xk, .string xn, .string xb, .string xt, .int .i64 xd, .slice al xl.length cl, .slice an xs.length cn, .slice ap xp.length cp] 31)).trans (hb12.mono (one_below w1 (.cells #[.int .i64 xk, .string xn, .string xb, .string xt, .int .i64 xd, .slice al xl.length cl, .slice an xs.length cn, .slice ap xp.length cp] 31)).size); have HB := Lib.hid (HB.out.trans (hbq.mono HB.out.size)); have HO := Lib.hid (blk hbq (lt_blk HO.out) HO.out); clear hb12 hbq x0 x1 x2 x3 x4 x5 x6 x7)
              | ((with_reducible refine (HPL.out _ HB.out).mono ?_); rintro e w2 ⟨bh, bm, bu, x, rfl, hh2, hr2, hge2, hb2⟩; obtain ⟨a1, m1, c1, a2, m2, c2, ex⟩ := hr2.shape; subst ex; rw [HNM.out] at hr2 ⊢; have hbn := one_below w2 (.cells #[.string ⟨#[115, 116, 111, 114, 101]⟩, .slice a1 m1 c1, .slice a2 m2 c2] 35); have HX := Lib.hid (heap_alloc_new w2 (.cells #[.string ⟨#[115, 116, 111, 114, 101]⟩, .slice a1 m1 c1, .slice a2 m2 c2] 35)); have HGE : Hid (w.heap.size ≤ bh ∧ w.heap.size ≤ bm ∧ w.heap.size ≤ bu) := Lib.hid (by have := HB.out.size; omega); have HH := Lib.hid (hh2.below hbn); have HR := Lib.hid (hr2.below hbn); have HB := Lib.hid (HB.out.trans ((hb2.trans (hbn.mono hb2.size)).mono HB.out.size)); have hbo := hb2.trans (hbn.mono hb2.size); have HO := Lib.hid (blk hbo (lt_blk HO.out) HO.out); obtain ⟨x0, x1, x2, x3, x4, x5, x6, x7⟩ := cells8 HO.out; clear hh2 hr2 hge2 hb2 hbn hbo)
              | ((with_reducible refine (HGET.out _ _ _ _ HH.out).mono ?_); rintro e w5 ⟨hb5, lv, rfl, hs5⟩; obtain ⟨ag, cg, rfl⟩ : ∃ a c, lv = .slice a gl.length c := (by simpa using hs5.shape); clear x0 x1 x2 x3 x4 x5 x6 x7; have hb6 := one_below w5 (.cells #[.string gn, .string gh, .string go, .slice ag gl.length cg, .int .i64 gd] 45); have HO5 := Lib.hid (blk hb5 (lt_blk HO.out) HO.out); obtain ⟨x0, x1, x2, x3, x4, x5, x6, x7⟩ := cells8 HO5.out; have xl5 := lt_blk HO5.out; have HB := Lib.hid (HB.out.trans (hb5.mono HB.out.size)); have HH := Lib.hid (HH.out.below hb5); have HR := Lib.hid (HR.out.below hb5); have HX := Lib.hid (blk hb5 (lt_blk HX.out) HX.out); have HO := Lib.hid (blk hb6 (lt_blk HO5.out) HO5.out); have HB := Lib.hid (HB.out.trans (hb6.mono HB.out.size)); have HH := Lib.hid (HH.out.below hb6); have HR := Lib.hid (HR.out.below hb6); have HX := Lib.hid (blk hb6 (lt_blk HX.out) HX.out); clear hb5 hb6 hs5)
              | ((with_reducible refine (HAW.out _).mono ?_); rintro e w9 ⟨rfl, hb9⟩; have HB := Lib.hid (HB.out.trans (hb9.mono HB.out.size)); clear hb9)
              | fail)
            go_ret
            exact retB rfl HB.out
          · skip
            go_enter Try.func4, Try.ntmps4
            go_wp2_with (first
              | ((with_reducible refine HLO.out.mono ?_); rintro e w1 ⟨rfl, hb1⟩; have HB := Lib.hid (HB0.out.trans (hb1.mono HB0.out.size)); have HO := Lib.hid (blk hb1 (lt_blk HO0.out) HO0.out); obtain ⟨x0, x1, x2, x3, x4, x5, x6, x7⟩ := cells8 HO.out; clear hb1)
              | ((with_reducible refine (HL2.out _ HB.out).mono ?_); rintro e w12 ⟨rfl, hb12⟩; have hbq := (one_below w1 (.cells #[.int .i64 xk, .string xn, .string xb, .string xt, .int .i64 xd, .slice al xl.length cl, .slice an xs.length cn, .slice ap xp.length cp] 31)).trans (hb12.mono (one_below w1 (.cells #[.int .i64 xk, .string xn, .string xb, .string xt, .int .i64 xd, .slice al xl.length cl, .slice an xs.length cn, .slice ap xp.length cp] 31)).size); have HB := Lib.hid (HB.out.trans (hbq.mono HB.out.size)); have HO := Lib.hid (blk hbq (lt_blk HO.out) HO.out); clear hb12 hbq x0 x1 x2 x3 x4 x5 x6 x7)
              | ((with_reducible refine (HPL.out _ HB.out).mono ?_); rintro e w2 ⟨bh, bm, bu, x, rfl, hh2, hr2, hge2, hb2⟩; obtain ⟨a1, m1, c1, a2, m2, c2, ex⟩ := hr2.shape; subst ex; rw [HNM.out] at hr2 ⊢; have hbn := one_below w2 (.cells #[.string ⟨#[115, 116, 111, 114, 101]⟩, .slice a1 m1 c1, .slice a2 m2 c2] 35); have HX := Lib.hid (heap_alloc_new w2 (.cells #[.string ⟨#[115, 116, 111, 114, 101]⟩, .slice a1 m1 c1, .slice a2 m2 c2] 35)); have HGE : Hid (w.heap.size ≤ bh ∧ w.heap.size ≤ bm ∧ w.heap.size ≤ bu) := Lib.hid (by have := HB.out.size; omega); have HH := Lib.hid (hh2.below hbn); have HR := Lib.hid (hr2.below hbn); have HB := Lib.hid (HB.out.trans ((hb2.trans (hbn.mono hb2.size)).mono HB.out.size)); have hbo := hb2.trans (hbn.mono hb2.size); have HO := Lib.hid (blk hbo (lt_blk HO.out) HO.out); obtain ⟨x0, x1, x2, x3, x4, x5, x6, x7⟩ := cells8 HO.out; clear hh2 hr2 hge2 hb2 hbn hbo)
              | ((with_reducible refine (HGET.out _ _ _ _ HH.out).mono ?_); rintro e w5 ⟨hb5, lv, rfl, hs5⟩; obtain ⟨ag, cg, rfl⟩ : ∃ a c, lv = .slice a gl.length c := (by simpa using hs5.shape); clear x0 x1 x2 x3 x4 x5 x6 x7; have hb6 := one_below w5 (.cells #[.string gn, .string gh, .string go, .slice ag gl.length cg, .int .i64 gd] 45); have HO5 := Lib.hid (blk hb5 (lt_blk HO.out) HO.out); obtain ⟨x0, x1, x2, x3, x4, x5, x6, x7⟩ := cells8 HO5.out; have xl5 := lt_blk HO5.out; have HB := Lib.hid (HB.out.trans (hb5.mono HB.out.size)); have HH := Lib.hid (HH.out.below hb5); have HR := Lib.hid (HR.out.below hb5); have HX := Lib.hid (blk hb5 (lt_blk HX.out) HX.out); have HO := Lib.hid (blk hb6 (lt_blk HO5.out) HO5.out); have HB := Lib.hid (HB.out.trans (hb6.mono HB.out.size)); have HH := Lib.hid (HH.out.below hb6); have HR := Lib.hid (HR.out.below hb6); have HX := Lib.hid (blk hb6 (lt_blk HX.out) HX.out); clear hb5 hb6 hs5)
              | ((with_reducible refine (HAW.out _).mono ?_); rintro e w9 ⟨rfl, hb9⟩; have HB := Lib.hid (HB.out.trans (hb9.mono HB.out.size)); clear hb9)
              | fail)
            go_ret
            exact retB rfl HB.out
      · have t2 : decide (xk < 2) = false := decide_eq_false hk1
        have t4 : decide (4 < xk) = false := decide_eq_false hk2
        have hne : ownC hq xn xb ≠ 0 := by
          rw [hown2]
          rcases hno with rfl | rfl
          · simp
          · cases ok <;> simp
        obtain ⟨e1, e2⟩ := HOT1 (by show xk = 2 ∨ xk = 3 ∨ xk = 4; omega) hne
        have HDO : Hid (∀ bh bm bu W, Hsx W bh bm bu hq → Below w.heap.size w W → Calls Try.prog 11 #[.pointer (some ⟨bh, 0, none⟩), .agg #[.string ⟨#[]⟩, .slice none 0 0, .slice none 0 0], .agg #[.int .i64 xk, .string xn, .string xb, .string xt, .int .i64 xd, .slice al xl.length cl, .slice an xs.length cn, .slice ap xp.length cp]] W (DoP W bh bm bu hq (opH ⟨⟨#[]⟩, [], []⟩ (Opv.rop ⟨xk, xn, xb, xt, xd, xl, xs, xp, .slice al xl.length cl, .slice an xs.length cn, .slice ap xp.length cp⟩)) (if ok = true then 8 else 4) (opC ⟨⟨#[]⟩, [], []⟩ (Opv.rop ⟨xk, xn, xb, xt, xd, xl, xs, xp, .slice al xl.length cl, .slice an xs.length cn, .slice ap xp.length cp⟩)))) := Lib.hid (fun bh bm bu W h hW => by
          have := HDO1 bh bm bu W h hW
          rw [e2, e1, show ownC hq (Opv.rop ⟨xk, xn, xb, xt, xd, xl, xs, xp, .slice al xl.length cl, .slice an xs.length cn, .slice ap xp.length cp⟩).num (Opv.rop ⟨xk, xn, xb, xt, xd, xl, xs, xp, .slice al xl.length cl, .slice an xs.length cn, .slice ap xp.length cp⟩).by' = ownC hq xn xb from rfl, hown2] at this
          have e3 : (if ok = true then (if G = true then (0 : Int) else 8) else 4) = if ok = true then 8 else 4 := by
            rcases hno with rfl | rfl
            · rfl
            · rfl
          rw [e3] at this
          exact this)
        clear hown2 HOT1 HDO1 hk1 hk2 hne e1 e2
        rcases hno with rfl | rfl
        · have HDO := Lib.hid HDO.out
          simp only [Bool.false_eq_true, if_false] at HDO
          go_enter Try.func4, Try.ntmps4
          go_wp2_with (first
            | ((with_reducible refine HLO.out.mono ?_); rintro e w1 ⟨rfl, hb1⟩; have HB := Lib.hid (HB0.out.trans (hb1.mono HB0.out.size)); have HO := Lib.hid (blk hb1 (lt_blk HO0.out) HO0.out); obtain ⟨x0, x1, x2, x3, x4, x5, x6, x7⟩ := cells8 HO.out; clear hb1)
            | ((with_reducible refine (HL2.out _ HB.out).mono ?_); rintro e w12 ⟨rfl, hb12⟩; have hbq := (one_below w1 (.cells #[.int .i64 xk, .string xn, .string xb, .string xt, .int .i64 xd, .slice al xl.length cl, .slice an xs.length cn, .slice ap xp.length cp] 31)).trans (hb12.mono (one_below w1 (.cells #[.int .i64 xk, .string xn, .string xb, .string xt, .int .i64 xd, .slice al xl.length cl, .slice an xs.length cn, .slice ap xp.length cp] 31)).size); have HB := Lib.hid (HB.out.trans (hbq.mono HB.out.size)); have HO := Lib.hid (blk hbq (lt_blk HO.out) HO.out); clear hb12 hbq x0 x1 x2 x3 x4 x5 x6 x7)
            | ((with_reducible refine (HPL.out _ HB.out).mono ?_); rintro e w2 ⟨bh, bm, bu, x, rfl, hh2, hr2, hge2, hb2⟩; obtain ⟨a1, m1, c1, a2, m2, c2, ex⟩ := hr2.shape; subst ex; rw [HNM.out] at hr2 ⊢; have hbn := one_below w2 (.cells #[.string ⟨#[115, 116, 111, 114, 101]⟩, .slice a1 m1 c1, .slice a2 m2 c2] 35); have HX := Lib.hid (heap_alloc_new w2 (.cells #[.string ⟨#[115, 116, 111, 114, 101]⟩, .slice a1 m1 c1, .slice a2 m2 c2] 35)); have HGE : Hid (w.heap.size ≤ bh ∧ w.heap.size ≤ bm ∧ w.heap.size ≤ bu) := Lib.hid (by have := HB.out.size; omega); have HH := Lib.hid (hh2.below hbn); have HR := Lib.hid (hr2.below hbn); have HB := Lib.hid (HB.out.trans ((hb2.trans (hbn.mono hb2.size)).mono HB.out.size)); have hbo := hb2.trans (hbn.mono hb2.size); have HO := Lib.hid (blk hbo (lt_blk HO.out) HO.out); obtain ⟨x0, x1, x2, x3, x4, x5, x6, x7⟩ := cells8 HO.out; clear hh2 hr2 hge2 hb2 hbn hbo)
            | ((with_reducible refine (HGET.out _ _ _ _ HH.out).mono ?_); rintro e w5 ⟨hb5, lv, rfl, hs5⟩; obtain ⟨ag, cg, rfl⟩ : ∃ a c, lv = .slice a gl.length c := (by simpa using hs5.shape); clear x0 x1 x2 x3 x4 x5 x6 x7; have hb6 := one_below w5 (.cells #[.string gn, .string gh, .string go, .slice ag gl.length cg, .int .i64 gd] 45); have HO5 := Lib.hid (blk hb5 (lt_blk HO.out) HO.out); obtain ⟨x0, x1, x2, x3, x4, x5, x6, x7⟩ := cells8 HO5.out; have xl5 := lt_blk HO5.out; have HB := Lib.hid (HB.out.trans (hb5.mono HB.out.size)); have HH := Lib.hid (HH.out.below hb5); have HR := Lib.hid (HR.out.below hb5); have HX := Lib.hid (blk hb5 (lt_blk HX.out) HX.out); have HO := Lib.hid (blk hb6 (lt_blk HO5.out) HO5.out); have HB := Lib.hid (HB.out.trans (hb6.mono HB.out.size)); have HH := Lib.hid (HH.out.below hb6); have HR := Lib.hid (HR.out.below hb6); have HX := Lib.hid (blk hb6 (lt_blk HX.out) HX.out); clear hb5 hb6 hs5)
            | ((with_reducible refine (HDO.out _ _ _ _ HH.out HB.out).mono ?_); rintro e w7 ⟨y, rfl, hk7, hh7, hr7⟩; obtain ⟨a3, m3, c3, a4, m4, c4, ey⟩ := hr7.shape; subst ey; have HMP := Lib.hid HH.out.maps; have HB := Lib.hid (hk7.behind HB.out HB.out.size (fun q hq e => by have := HGE.out; omega)); have HR := Lib.hid (HR.out.keepM hk7 HMP.out); have HX := Lib.hid (keep_blk hk7 HMP.out HX.out (by simp)); have HH := Lib.hid hh7; have hbn := one_below w7 (.cells #[.string (opH ⟨⟨#[]⟩, [], []⟩ (Opv.rop ⟨xk, xn, xb, xt, xd, xl, xs, xp, .slice al xl.length cl, .slice an xs.length cn, .slice ap xp.length cp⟩)).name, .slice a3 m3 c3, .slice a4 m4 c4] 35); have HB := Lib.hid (HB.out.trans (hbn.mono HB.out.size)); have HH := Lib.hid (HH.out.below hbn); have HR := Lib.hid (HR.out.below hbn); have HX := Lib.hid (blk hbn (lt_blk HX.out) HX.out); obtain ⟨z0, z1, z2⟩ := cells3_blk HX.out; clear hk7 hh7 hr7 hbn)
            | ((with_reducible refine (HLK.out _ _ _ _ _ HH.out HR.out).mono ?_); rintro e w8 ⟨rfl, hb8⟩; have HB := Lib.hid (HB.out.trans (hb8.mono HB.out.size)); clear hb8)
            | ((with_reducible refine (HAW.out _).mono ?_); rintro e w9 ⟨rfl, hb9⟩; have HB := Lib.hid (HB.out.trans (hb9.mono HB.out.size)); clear hb9)
            | fail)
          go_ret
          exact retB rfl HB.out
        · cases ok
          · simp only [Bool.false_eq_true, if_false] at HDO
            go_enter Try.func4, Try.ntmps4
            go_wp2_with (first
              | ((with_reducible refine HLO.out.mono ?_); rintro e w1 ⟨rfl, hb1⟩; have HB := Lib.hid (HB0.out.trans (hb1.mono HB0.out.size)); have HO := Lib.hid (blk hb1 (lt_blk HO0.out) HO0.out); obtain ⟨x0, x1, x2, x3, x4, x5, x6, x7⟩ := cells8 HO.out; clear hb1)
              | ((with_reducible refine (HL2.out _ HB.out).mono ?_); rintro e w12 ⟨rfl, hb12⟩; have hbq := (one_below w1 (.cells #[.int .i64 xk, .string xn, .string xb, .string xt, .int .i64 xd, .slice al xl.length cl, .slice an xs.length cn, .slice ap xp.length cp] 31)).trans (hb12.mono (one_below w1 (.cells #[.int .i64 xk, .string xn, .string xb, .string xt, .int .i64 xd, .slice al xl.length cl, .slice an xs.length cn, .slice ap xp.length cp] 31)).size); have HB := Lib.hid (HB.out.trans (hbq.mono HB.out.size)); have HO := Lib.hid (blk hbq (lt_blk HO.out) HO.out); clear hb12 hbq x0 x1 x2 x3 x4 x5 x6 x7)
              | ((with_reducible refine (HPL.out _ HB.out).mono ?_); rintro e w2 ⟨bh, bm, bu, x, rfl, hh2, hr2, hge2, hb2⟩; obtain ⟨a1, m1, c1, a2, m2, c2, ex⟩ := hr2.shape; subst ex; rw [HNM.out] at hr2 ⊢; have hbn := one_below w2 (.cells #[.string ⟨#[115, 116, 111, 114, 101]⟩, .slice a1 m1 c1, .slice a2 m2 c2] 35); have HX := Lib.hid (heap_alloc_new w2 (.cells #[.string ⟨#[115, 116, 111, 114, 101]⟩, .slice a1 m1 c1, .slice a2 m2 c2] 35)); have HGE : Hid (w.heap.size ≤ bh ∧ w.heap.size ≤ bm ∧ w.heap.size ≤ bu) := Lib.hid (by have := HB.out.size; omega); have HH := Lib.hid (hh2.below hbn); have HR := Lib.hid (hr2.below hbn); have HB := Lib.hid (HB.out.trans ((hb2.trans (hbn.mono hb2.size)).mono HB.out.size)); have hbo := hb2.trans (hbn.mono hb2.size); have HO := Lib.hid (blk hbo (lt_blk HO.out) HO.out); obtain ⟨x0, x1, x2, x3, x4, x5, x6, x7⟩ := cells8 HO.out; clear hh2 hr2 hge2 hb2 hbn hbo)
              | ((with_reducible refine (HGET.out _ _ _ _ HH.out).mono ?_); rintro e w5 ⟨hb5, lv, rfl, hs5⟩; obtain ⟨ag, cg, rfl⟩ : ∃ a c, lv = .slice a gl.length c := (by simpa using hs5.shape); clear x0 x1 x2 x3 x4 x5 x6 x7; have hb6 := one_below w5 (.cells #[.string gn, .string gh, .string go, .slice ag gl.length cg, .int .i64 gd] 45); have HO5 := Lib.hid (blk hb5 (lt_blk HO.out) HO.out); obtain ⟨x0, x1, x2, x3, x4, x5, x6, x7⟩ := cells8 HO5.out; have xl5 := lt_blk HO5.out; have HB := Lib.hid (HB.out.trans (hb5.mono HB.out.size)); have HH := Lib.hid (HH.out.below hb5); have HR := Lib.hid (HR.out.below hb5); have HX := Lib.hid (blk hb5 (lt_blk HX.out) HX.out); have HO := Lib.hid (blk hb6 (lt_blk HO5.out) HO5.out); have HB := Lib.hid (HB.out.trans (hb6.mono HB.out.size)); have HH := Lib.hid (HH.out.below hb6); have HR := Lib.hid (HR.out.below hb6); have HX := Lib.hid (blk hb6 (lt_blk HX.out) HX.out); clear hb5 hb6 hs5)
              | ((with_reducible refine (HDO.out _ _ _ _ HH.out HB.out).mono ?_); rintro e w7 ⟨y, rfl, hk7, hh7, hr7⟩; obtain ⟨a3, m3, c3, a4, m4, c4, ey⟩ := hr7.shape; subst ey; have HMP := Lib.hid HH.out.maps; have HB := Lib.hid (hk7.behind HB.out HB.out.size (fun q hq e => by have := HGE.out; omega)); have HR := Lib.hid (HR.out.keepM hk7 HMP.out); have HX := Lib.hid (keep_blk hk7 HMP.out HX.out (by simp)); have HH := Lib.hid hh7; have hbn := one_below w7 (.cells #[.string (opH ⟨⟨#[]⟩, [], []⟩ (Opv.rop ⟨xk, xn, xb, xt, xd, xl, xs, xp, .slice al xl.length cl, .slice an xs.length cn, .slice ap xp.length cp⟩)).name, .slice a3 m3 c3, .slice a4 m4 c4] 35); have HB := Lib.hid (HB.out.trans (hbn.mono HB.out.size)); have HH := Lib.hid (HH.out.below hbn); have HR := Lib.hid (HR.out.below hbn); have HX := Lib.hid (blk hbn (lt_blk HX.out) HX.out); obtain ⟨z0, z1, z2⟩ := cells3_blk HX.out; clear hk7 hh7 hr7 hbn)
              | ((with_reducible refine (HLK.out _ _ _ _ _ HH.out HR.out).mono ?_); rintro e w8 ⟨rfl, hb8⟩; have HB := Lib.hid (HB.out.trans (hb8.mono HB.out.size)); clear hb8)
              | ((with_reducible refine (HAW.out _).mono ?_); rintro e w9 ⟨rfl, hb9⟩; have HB := Lib.hid (HB.out.trans (hb9.mono HB.out.size)); clear hb9)
              | fail)
            go_ret
            exact retB rfl HB.out
          · simp only [if_true] at HDO
            go_enter Try.func4, Try.ntmps4
            go_wp2_with (first
              | ((with_reducible refine HLO.out.mono ?_); rintro e w1 ⟨rfl, hb1⟩; have HB := Lib.hid (HB0.out.trans (hb1.mono HB0.out.size)); have HO := Lib.hid (blk hb1 (lt_blk HO0.out) HO0.out); obtain ⟨x0, x1, x2, x3, x4, x5, x6, x7⟩ := cells8 HO.out; clear hb1)
              | ((with_reducible refine (HL2.out _ HB.out).mono ?_); rintro e w12 ⟨rfl, hb12⟩; have hbq := (one_below w1 (.cells #[.int .i64 xk, .string xn, .string xb, .string xt, .int .i64 xd, .slice al xl.length cl, .slice an xs.length cn, .slice ap xp.length cp] 31)).trans (hb12.mono (one_below w1 (.cells #[.int .i64 xk, .string xn, .string xb, .string xt, .int .i64 xd, .slice al xl.length cl, .slice an xs.length cn, .slice ap xp.length cp] 31)).size); have HB := Lib.hid (HB.out.trans (hbq.mono HB.out.size)); have HO := Lib.hid (blk hbq (lt_blk HO.out) HO.out); clear hb12 hbq x0 x1 x2 x3 x4 x5 x6 x7)
              | ((with_reducible refine (HPL.out _ HB.out).mono ?_); rintro e w2 ⟨bh, bm, bu, x, rfl, hh2, hr2, hge2, hb2⟩; obtain ⟨a1, m1, c1, a2, m2, c2, ex⟩ := hr2.shape; subst ex; rw [HNM.out] at hr2 ⊢; have hbn := one_below w2 (.cells #[.string ⟨#[115, 116, 111, 114, 101]⟩, .slice a1 m1 c1, .slice a2 m2 c2] 35); have HX := Lib.hid (heap_alloc_new w2 (.cells #[.string ⟨#[115, 116, 111, 114, 101]⟩, .slice a1 m1 c1, .slice a2 m2 c2] 35)); have HGE : Hid (w.heap.size ≤ bh ∧ w.heap.size ≤ bm ∧ w.heap.size ≤ bu) := Lib.hid (by have := HB.out.size; omega); have HH := Lib.hid (hh2.below hbn); have HR := Lib.hid (hr2.below hbn); have HB := Lib.hid (HB.out.trans ((hb2.trans (hbn.mono hb2.size)).mono HB.out.size)); have hbo := hb2.trans (hbn.mono hb2.size); have HO := Lib.hid (blk hbo (lt_blk HO.out) HO.out); obtain ⟨x0, x1, x2, x3, x4, x5, x6, x7⟩ := cells8 HO.out; clear hh2 hr2 hge2 hb2 hbn hbo)
              | ((with_reducible refine (HGET.out _ _ _ _ HH.out).mono ?_); rintro e w5 ⟨hb5, lv, rfl, hs5⟩; obtain ⟨ag, cg, rfl⟩ : ∃ a c, lv = .slice a gl.length c := (by simpa using hs5.shape); clear x0 x1 x2 x3 x4 x5 x6 x7; have hb6 := one_below w5 (.cells #[.string gn, .string gh, .string go, .slice ag gl.length cg, .int .i64 gd] 45); have HO5 := Lib.hid (blk hb5 (lt_blk HO.out) HO.out); obtain ⟨x0, x1, x2, x3, x4, x5, x6, x7⟩ := cells8 HO5.out; have xl5 := lt_blk HO5.out; have HB := Lib.hid (HB.out.trans (hb5.mono HB.out.size)); have HH := Lib.hid (HH.out.below hb5); have HR := Lib.hid (HR.out.below hb5); have HX := Lib.hid (blk hb5 (lt_blk HX.out) HX.out); have HO := Lib.hid (blk hb6 (lt_blk HO5.out) HO5.out); have HB := Lib.hid (HB.out.trans (hb6.mono HB.out.size)); have HH := Lib.hid (HH.out.below hb6); have HR := Lib.hid (HR.out.below hb6); have HX := Lib.hid (blk hb6 (lt_blk HX.out) HX.out); clear hb5 hb6 hs5)
              | ((with_reducible refine (HDO.out _ _ _ _ HH.out HB.out).mono ?_); rintro e w7 ⟨y, rfl, hk7, hh7, hr7⟩; obtain ⟨a3, m3, c3, a4, m4, c4, ey⟩ := hr7.shape; subst ey; have HMP := Lib.hid HH.out.maps; have HB := Lib.hid (hk7.behind HB.out HB.out.size (fun q hq e => by have := HGE.out; omega)); have HR := Lib.hid (HR.out.keepM hk7 HMP.out); have HX := Lib.hid (keep_blk hk7 HMP.out HX.out (by simp)); have HH := Lib.hid hh7; have hbn := one_below w7 (.cells #[.string (opH ⟨⟨#[]⟩, [], []⟩ (Opv.rop ⟨xk, xn, xb, xt, xd, xl, xs, xp, .slice al xl.length cl, .slice an xs.length cn, .slice ap xp.length cp⟩)).name, .slice a3 m3 c3, .slice a4 m4 c4] 35); have HB := Lib.hid (HB.out.trans (hbn.mono HB.out.size)); have HH := Lib.hid (HH.out.below hbn); have HR := Lib.hid (HR.out.below hbn); have HX := Lib.hid (blk hbn (lt_blk HX.out) HX.out); obtain ⟨z0, z1, z2⟩ := cells3_blk HX.out; clear hk7 hh7 hr7 hbn)
              | ((with_reducible refine (HLK.out _ _ _ _ _ HH.out HR.out).mono ?_); rintro e w8 ⟨rfl, hb8⟩; have HB := Lib.hid (HB.out.trans (hb8.mono HB.out.size)); clear hb8)
              | ((with_reducible refine (HAW.out _).mono ?_); rintro e w9 ⟨rfl, hb9⟩; have HB := Lib.hid (HB.out.trans (hb9.mono HB.out.size)); clear hb9)
              | fail)
            go_ret
            exact retB rfl HB.out
  · rw [hlr] at HLO
    clear hlr hs hf hs2 hf2 HDO0 HOT hsm2
    go_enter Try.func4, Try.ntmps4
    go_wp2_with (first
      | ((with_reducible refine HLO.out.mono ?_); rintro e w1 ⟨rfl, hb1⟩; have HB := Lib.hid (HB0.out.trans (hb1.mono HB0.out.size)); have HO := Lib.hid (blk hb1 (lt_blk HO0.out) HO0.out); obtain ⟨x0, x1, x2, x3, x4, x5, x6, x7⟩ := cells8 HO.out; clear hb1)
      | ((with_reducible refine (HAW.out _).mono ?_); rintro e w9 ⟨rfl, hb9⟩; have HB := Lib.hid (HB.out.trans (hb9.mono HB.out.size)); clear hb9)
      | fail)
    go_ret
    exact retB rfl HB.out

theorem lifted (os : Os) (started : os.Started) (H : Type) (enc : TypeId × Value → H) :
    ReturnsInHanded {} Try.checked os 4 .any (Rows.receiptHoldersSpec.pre6 enc Try.prog Try.f4 Rows.receiptHoldersRow.domain false) (Rows.receiptHoldersSpec.post enc Try.prog Try.f4 false true false false) := by
  refine law_lifted os started (by kernel_rfl) Try.func4
    (ChangeSpec.witness6 (enc := enc) (C := Try.checked) false ⟨#[], #[.slice none 0 0, .agg #[.int .i64 0, .string ⟨#[]⟩, .string ⟨#[]⟩, .string ⟨#[]⟩, .int .i64 0, .slice none 0 0, .slice none 0 0, .slice none 0 0]], []⟩ 8 (by kernel_rfl) (by kernel_rfl) (by kernel_rfl) (by kernel_rfl))
    (by kernel_rfl) rfl rfl ?_ ?_
  · intro vs ds W p hA
    rw [Try.params4] at hA
    obtain ⟨v0, vs0, d0, ds0, p0, q0, rfl, rfl, rfl, h0, r0⟩ := trodAll_cons hA
    obtain ⟨v1, vs1, d1, ds1, p1, q1, rfl, rfl, rfl, h1, r1⟩ := trodAll_cons r0
    obtain ⟨rfl, rfl, rfl⟩ := trodAll_nil r1
    rfl
  · intro W base args ds p hval hA
    rw [Try.params4] at hA hval
    obtain ⟨v0, vs0, d0, ds0, p0, q0, hargs, rfl, rfl, h0, r0⟩ := trodAll_cons hA
    obtain ⟨v1, vs1, d1, ds1, p1, q1, rfl, rfl, rfl, h1, r1⟩ := trodAll_cons r0
    obtain ⟨rfl, rfl, rfl⟩ := trodAll_nil r1
    obtain rfl : args = #[v0, v1] := by cases args; simp_all
    obtain ⟨l0, hs0, hf0⟩ := open_ops25 (hval 0 22 v0 rfl rfl) h0
    obtain ⟨o1, rfl, hs1, hf1⟩ := open_op25 (hval 1 31 v1 rfl rfl) h1
    exact walk W l0 v0 hs0 hf0 o1 hs1 hf1

theorem over : Rows.receiptHoldersRow.holds Try.pinned (OpenSpec.ofChange Rows.receiptHoldersSpec) :=
  OpenClaim.holds_of_wide 4 Try.f4 rfl rfl rfl rfl rfl rfl rfl ⟨rfl, rfl, rfl, rfl, rfl⟩ rfl rfl rfl rfl rfl (by kernel_rfl) Try.func4 (by kernel_rfl)
    (of_decide_eq_true (by kernel_rfl)) (by unfold Func.isWrapper; rw [if_neg (by decide +kernel)]; exact ⟨rfl, rfl⟩)
    (fun os started H enc _ => lifted os started H enc)

/-- The statement. -/
theorem proved : Rows.ReceiptHoldersSaid := over
#print axioms proved
end Go.Proofs.Yticnmmfiadpbbaa.receiptHolders
