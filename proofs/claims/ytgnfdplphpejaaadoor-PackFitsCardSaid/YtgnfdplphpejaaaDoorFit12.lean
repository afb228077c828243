/- PackFits: whether a lot goes into a box, its room, and what it weighs, are the document's. -/
import Derived.Test.YtgnfdplphpejaaaDoorAwPk12
import Derived.Test.YtgnfdplphpejaaaDoorRefGo12
namespace Go.Proofs.YtgnfdplphpejaaaDoor.Sc
open Go Go.RowKit Go.ChangeShapes Go.WideShapes Go.ChangeAt
set_option maxRecDepth 100000

def fewS (p : Prop) (f : Bool → Bool) : Any.Spec := ⟨fun v _ => ∃ b, v = .bool (f b) ∧ (b = true → p), fun _ => none, []⟩
theorem lasts_fewS {w0 : World} (p : Prop) (f : Bool → Bool) : Any.Lasts (fewS p f) w0 := ⟨fun _ _ _ _ h => by simp [fewS] at h, fun _ _ _ h _ _ _ _ => h⟩
set_option maxHeartbeats 16000000 in
theorem walk (w : World) (hap : Lw w) (t : List Gd) (vt : Value) (hst : Sl w 4 vt (t.map Gd.row)) (hft : ∀ g ∈ t, g.fit) (B : Bv) (hsb : Sl w 2 B.v (B.b.lots.map Lt.row)) (hfb : B.fit) (hz : B.b.lots.length * 24 ≤ reachBytes) (x : Lt) (hfx : x.fit) :
    Calls Tryd.prog 4 #[vt, .agg #[.string B.b.mark, .int .i64 B.b.kind, B.v], .agg #[.string x.good, .int .i64 x.cnt]] w (RetB w true) := by
  obtain ⟨⟨m, k, L⟩, vl⟩ := B
  obtain ⟨xn, xc⟩ := x
  have hfL : ∀ c ∈ L, c.fit := hfb.2
  simp only at hsb hz ⊢
  obtain ⟨al, cl, rfl⟩ : ∃ a c, vl = .slice a L.length c := by simpa using hsb.shape
  obtain ⟨w5, hw5⟩ : ∃ w5, w5 = (w.alloc (.cells #[.string m, .int .i64 k, .slice al L.length cl] 33)).alloc (.cells #[.string xn, .int .i64 xc] 35) := ⟨_, rfl⟩
  obtain ⟨b4, hb4⟩ : ∃ b, b = w.heap.size := ⟨_, rfl⟩
  obtain ⟨b5, hb5⟩ : ∃ b, b = w.heap.size + 1 := ⟨_, rfl⟩
  have h4 : w5.heap[b4]? = some (.cells #[.string m, .int .i64 k, .slice al L.length cl] 33 (0, 0)) := by
    rw [hw5, hb4]
    exact blk (one_below _ _) (by simp) (heap_alloc_new w _)
  have h5 : w5.heap[b5]? = some (.cells #[.string xn, .int .i64 xc] 35 (0, 0)) := by
    rw [hw5, hb5]
    have := heap_alloc_new (w.alloc (.cells #[.string m, .int .i64 k, .slice al L.length cl] 33)) (.cells #[.string xn, .int .i64 xc] 35)
    simpa using this
  have HB5 : Hid (Below w.heap.size w w5) := Lib.hid (by rw [hw5]; exact (one_below w _).trans ((one_below _ _).mono (by simp)))
  have HM4 := Lib.hid h4
  have HM5 := Lib.hid h5
  obtain ⟨FP, hFP⟩ : ∃ p : Prop, p = (t.length ≤ 12 ∧ (L ++ [Lt.mk xn xc]).length ≤ 12 ∧ LtFew (L ++ [Lt.mk xn xc])) := ⟨_, rfl⟩
  have HWB := Lib.hid (fun W (hW : Below w5.heap.size w5 W) => HB5.out.trans (hW.mono HB5.out.size))
  have HAW := Lib.hid (fun W (hW : Below w5.heap.size w5 W) => awake12_any W (hap.below (HWB.out W hW)))
  have HAW2 := Lib.hid (fun W (hW : Below w.heap.size w W) => awake12_any W (hap.below hW))
  have HSRC : Hid (∀ W, Below w5.heap.size w5 W → Src W 2 (.slice al L.length cl) L.length (ltCells L)) := Lib.hid (fun W hW => src_lots (hsb.below (HWB.out W hW) (Nat.le_refl _)))
  have HFW : Hid (∀ W, Below w5.heap.size w5 W → ∀ v, W.ownsRow w5.heap.size 35 2 v (L.length + 1) (ltCells L ++ [.string xn, .int .i64 xc]) → Calls Tryd.prog 6 #[vt, v] W (FewP W FP)) := Lib.hid (fun W hW v hv => by
    rw [hFP]
    refine few12_any t (L ++ [⟨xn, xc⟩]) vt v W (hst.below (HWB.out W hW) (Nat.le_refl _)) ?_
    rw [show ltCells L ++ [.string xn, .int .i64 xc] = ltCells (L ++ [⟨xn, xc⟩]) by rw [ltCells_append]; rfl] at hv
    exact own_lots hv (by simp))
  obtain ⟨i0, hi, hz, hsz, hby⟩ := info_parts infoLt
  have HI := Lib.hid (And.intro hi (And.intro hz (And.intro hsz hby)))
  have HL : Hid (L.length + 1 ≤ maxLen ∧ (L.length + 1) * 24 ≤ 140737488355328) := Lib.hid (by
    have : reachBytes = 140737488351232 := rfl
    simp only [maxLen]
    omega)
  have HTN := Lib.hid (fun (hp : FP) W (hW : Below w.heap.size w W) => table_any t vt W (hst.below hW (Nat.le_refl _)) (by rw [hFP] at hp; omega) hft)
  have HSB := Lib.hid (fun W (hW : Below w.heap.size w W) => hst.below hW (Nat.le_refl _))
  have HSL := Lib.hid (fun W (hW : Below w.heap.size w W) => hsb.below hW (Nat.le_refl _))
  have HAP := Lib.hid (fun W (hW : Below w.heap.size w W) => hap.below hW)
  have HFX := Lib.hid (And.intro hfL hfx)
  have HFPE := Lib.hid hFP
  clear hi hz hsz hby hap hst hft hsb hfb hfL hfx h4 h5 hFP
  go_enter Tryd.func4, Tryd.ntmps4
  go_wp2_with fail
  rw [← hb5, ← hb4, ← hw5]
  clear hb4 hb5 hw5
  refine Any.region_lit (fun
    | 0 => Any.val (.bool true)
    | 1 => Any.val (.bool false)
    | 2 => Any.val (.bool false)
    | 3 => Any.val (vt)
    | 4 => Any.row w5.heap.size 35 2 (0) ([]) []
    | 5 => Any.val (.pointer (some ⟨b4, 2, none⟩))
    | 6 => Any.val (.slice al L.length cl)
    | 7 => Any.row w5.heap.size 35 2 (L.length) (ltCells L) [4]
    | 8 => Any.val (.agg #[.string xn, .int .i64 xc])
    | 9 => Any.made 35 1 #[.string xn, .int .i64 xc]
    | 10 => Any.row w5.heap.size 35 2 (L.length + 1) (ltCells L ++ [.string xn, .int .i64 xc]) [7]
    | 11 => fewS FP (fun b => b)
    | 12 => fewS FP (fun b => !b)
    | 13 => fewS FP (fun b => !b)
    | _ => Any.idle) (by kernel_rfl) (by kernel_rfl) (by kernel_rfl) ?_ ?_ ?_
  · intro i _
    match i with
    | 0 => exact Any.lasts_val _
    | 1 => exact Any.lasts_val _
    | 2 => exact Any.lasts_val _
    | 3 => exact Any.lasts_val _
    | 4 => exact Any.lasts_row _ _ _ _ _ _
    | 5 => exact Any.lasts_val _
    | 6 => exact Any.lasts_val _
    | 7 => exact Any.lasts_row _ _ _ _ _ _
    | 8 => exact Any.lasts_val _
    | 9 => exact Any.lasts_made _ _ _
    | 10 => exact Any.lasts_row _ _ _ _ _ _
    | 11 => exact lasts_fewS _ _
    | 12 => exact lasts_fewS _ _
    | 13 => exact lasts_fewS _ _
    | n + 14 => exact Any.lasts_idle
  · refine ⟨?_, ?_, ?_, ?_, ?_, ?_, ?_, ?_, ?_, ?_, ?_, ?_, ?_, ?_, trivial⟩
    · refine Any.owes_plain rfl fun ρ wo hs' hb hc' => ?_
      have hf := hs'.func 5
      go_simp
      exact (HAW.out wo (below_undrew hb)).mono fun e w' ⟨he, hb'⟩ => ⟨_, he, Any.post_vals hb rfl rfl hb'⟩
    · refine Any.owes_plain rfl fun ρ wo hs' hb hc' => ?_
      have h16 : ρ (.tmp 16) = .bool true := hs'.new' 16 0 (by kernel_rfl)
      go_simp
      exact Any.post_val hb rfl rfl
    · refine Any.owes_plain rfl fun ρ wo hs' hb hc' => ?_
      have h17 : ρ (.tmp 17) = .bool false := hs'.new' 17 1 (by kernel_rfl)
      exact Any.ok_move (Any.post_val hb rfl h17)
    · refine Any.owes_on rfl rfl (by kernel_rfl) rfl fun ρ wo hs' hb hc' => ?_
      have h0 : ρ (.tmp 0) = vt := hs'.old' 0 (by kernel_rfl)
      exact Any.ok_move (Any.post_val hb rfl h0)
    · refine Any.owes_on rfl rfl (by kernel_rfl) rfl fun ρ wo hs' hb hc' => ?_
      go_simp
      exact Any.post_new hb (own_empty (show w5.heap.size ≤ wo.heap.size from hb.size)) (one_below _ _) (by intro b hb'; obtain rfl : wo.heap.size = b := Option.some.inj hb'; exact Nat.le_refl _)
    · refine Any.owes_on rfl rfl (by kernel_rfl) rfl fun ρ wo hs' hb hc' => ?_
      have h4 : ρ (.tmp 4) = .pointer (some ⟨b4, 0, none⟩) := hs'.old' 4 (by kernel_rfl)
      go_simp
      exact Any.post_val hb rfl rfl
    · refine Any.owes_on rfl rfl (by kernel_rfl) rfl fun ρ wo hs' hb hc' => ?_
      have h21 : ρ (.tmp 21) = .pointer (some ⟨b4, 2, none⟩) := hs'.new' 21 5 (by kernel_rfl)
      have c0 : wo.cell? ⟨b4, 2, none⟩ = some (.slice al L.length cl) := cell_blk (blk (below_undrew hb) (lt_blk HM4.out) HM4.out) 2
      go_simp
      exact Any.post_val hb rfl rfl
    · refine Any.owes_on rfl rfl (by kernel_rfl) rfl fun ρ wo hs' hb hc' => ?_
      have h22 : ρ (.tmp 22) = .slice al L.length cl := hs'.new' 22 6 (by kernel_rfl)
      have h8 : wo.ownsRow w5.heap.size 35 2 (ρ (.tmp 20)) 0 [] := hs'.new' 20 4 (by kernel_rfl)
      have hsrc : Src wo 2 (ρ (.tmp 22)) L.length (ltCells L) := by rw [h22]; exact HSRC.out wo (below_undrew hb)
      refine Any.ok_append_own Tryd.underlying23 HI.out.1 HI.out.2.1 HI.out.2.2.1 HI.out.2.2.2 rfl (by decide) h8 hsrc (ltCells_one _) (by have := HL.out.1; omega) (by have := HL.out.2; omega) (show w5.heap.size ≤ wo.heap.size from hb.size) fun v' w' h1 h2 h3 => ?_
      rw [List.nil_append, Nat.zero_add] at h1
      exact Any.post_take hb h1 h2 rfl ⟨_, _, _, rfl⟩ rfl rfl (Nat.le_refl _) h3 (fun b hb => (h8.lt b hb).1)
    · refine Any.owes_on rfl rfl (by kernel_rfl) rfl fun ρ wo hs' hb hc' => ?_
      have h5 : ρ (.tmp 5) = .pointer (some ⟨b5, 0, none⟩) := hs'.old' 5 (by kernel_rfl)
      have c0 : wo.cell? ⟨b5, 0, none⟩ = some (.string xn) := cell_blk (blk (below_undrew hb) (lt_blk HM5.out) HM5.out) 0
      have c1 : wo.cell? ⟨b5, 1, none⟩ = some (.int .i64 xc) := cell_blk (blk (below_undrew hb) (lt_blk HM5.out) HM5.out) 1
      go_simp
      exact Any.post_val hb rfl rfl
    · refine Any.owes_on rfl rfl (by kernel_rfl) rfl fun ρ wo hs' hb hc' => ?_
      have h24 : ρ (.tmp 24) = .agg #[.string xn, .int .i64 xc] := hs'.new' 24 8 (by kernel_rfl)
      go_simp
      exact Any.post_new hb ⟨_, rfl, heap_alloc_new _ _⟩ (one_below _ _) (by intro b hb'; obtain rfl : wo.heap.size = b := Option.some.inj hb'; exact Nat.le_refl _)
    · refine Any.owes_on rfl rfl (by kernel_rfl) rfl fun ρ wo hs' hb hc' => ?_
      have h8 : wo.ownsRow w5.heap.size 35 2 (ρ (.tmp 23)) (L.length) (ltCells L) := hs'.new' 23 7 (by kernel_rfl)
      obtain ⟨g, hg, hgb⟩ := hs'.new' 25 9 (by kernel_rfl)
      have hsrc : Src wo 2 (ρ (.tmp 25)) 1 [.string xn, .int .i64 xc] := by rw [hg]; exact src_block hgb rfl
      refine Any.ok_append_own Tryd.underlying23 HI.out.1 HI.out.2.1 HI.out.2.2.1 HI.out.2.2.2 rfl (by decide) h8 hsrc (lt_one xn xc) HL.out.1 HL.out.2 (show w5.heap.size ≤ wo.heap.size from hb.size) fun v' w' h1 h2 h3 => ?_
      exact Any.post_take hb h1 h2 rfl ⟨_, _, _, rfl⟩ rfl rfl (Nat.le_refl _) h3 (fun b hb => (h8.lt b hb).1)
    · refine Any.owes_on rfl rfl (by kernel_rfl) rfl fun ρ wo hs' hb hc' => ?_
      have h19 : ρ (.tmp 19) = vt := hs'.new' 19 3 (by kernel_rfl)
      have hf := hs'.func 6
      have h8 : wo.ownsRow w5.heap.size 35 2 (ρ (.tmp 26)) (L.length + 1) (ltCells L ++ [.string xn, .int .i64 xc]) := hs'.new' 26 10 (by kernel_rfl)
      go_simp
      exact (HFW.out wo (below_undrew hb) _ h8).mono fun e w' ⟨b, he, hp, hb'⟩ => ⟨_, he, Any.post_new hb ⟨b, rfl, hp⟩ hb' (by intro b h; cases h)⟩
    · refine Any.owes_on rfl rfl (by kernel_rfl) rfl fun ρ wo hs' hb hc' => ?_
      obtain ⟨b, h27, hp⟩ := hs'.new' 27 11 (by kernel_rfl)
      go_simp
      exact Any.post_new hb ⟨b, rfl, hp⟩ (Below.refl _ _) (by intro b h; cases h)
    · refine Any.owes_plain rfl fun ρ wo hs' hb hc' => ?_
      have h18 : ρ (.tmp 18) = .bool false := hs'.new' 18 2 (by kernel_rfl)
      obtain ⟨b, h28, hp⟩ := hs'.new' 28 12 (by kernel_rfl)
      go_simp
      exact Any.post_new hb ⟨b, rfl, hp⟩ (Below.refl _ _) (by intro b h; cases h)
  intro vals w6 hb hk ha
  obtain ⟨b, h13, hp⟩ := hk 13 (by kernel_rfl)
  have HP := Lib.hid hp
  have HB := Lib.hid (HB5.out.trans (hb.mono HB5.out.size))
  have HM4 := Lib.hid (blk hb (lt_blk HM4.out) HM4.out)
  have HM5 := Lib.hid (blk hb (lt_blk HM5.out) HM5.out)
  clear hk ha hb hp
  simp only [Any.putAll]
  go_frame
  simp only [Nat.zero_add, Nat.reduceAdd]
  rw [h13]
  clear h13
  cases b with
  | false =>
    go_wp2_with (first
      | ((with_reducible refine (HAW2.out _ HB.out).mono ?_); rintro e w1 ⟨rfl, hb1⟩; have HB := Lib.hid (HB.out.trans (hb1.mono HB.out.size)); clear hb1)
      | fail)
    go_ret
    exact ⟨rfl, HB.out⟩
  | true =>
  have hfp := HP.out rfl
  have HFEW : Hid (t.length ≤ 12 ∧ (L ++ [Lt.mk xn xc]).length ≤ 12 ∧ LtFew (L ++ [Lt.mk xn xc])) := Lib.hid (by rw [← HFPE.out]; exact hfp)
  have HTB := Lib.hid (HTN.out hfp w6 HB.out)
  clear hfp HP HTN
  by_cases h0 : tabC t = 0
  rotate_left
  · have HTB := Lib.hid (HTB.out.mono fun e w' h => table_no h h0)
    clear h0
    go_wp2_with (first
      | ((with_reducible refine HTB.out.mono ?_); rintro e w7 ⟨rfl, hb7⟩; have HB := Lib.hid (HB.out.trans (hb7.mono HB.out.size)); clear hb7)
      | fail)
    go_ret
    exact ⟨rfl, HB.out⟩
  have HTB := Lib.hid (HTB.out.mono fun e w' h => table_ok h h0)
  have HOK := Lib.hid (tabC_ok h0)
  clear h0
  have HRO := Lib.hid (fun W => room_any k W)
  have HRR := Lib.hid (fun W => refRoom_any k W)
  generalize roomW k = rw at *
  generalize roomV k = rv at *
  have t1 : (rw != rw) = false := by simp
  have t2 : (rv != rv) = false := by simp
  obtain ⟨r, hr⟩ : ∃ r, r = goP t k (L ++ [Lt.mk xn xc]) := ⟨_, rfl⟩
  have tr : (r != r) = false := by simp
  have HR := Lib.hid hr
  clear hr
  go_wp2_with (first
    | ((with_reducible refine HTB.out.mono ?_); rintro e w7 ⟨bt, bm, rfl, ht, hb7⟩; have HT := Lib.hid ht; have HM4 := Lib.hid (blk hb7 (lt_blk HM4.out) HM4.out); have HM5 := Lib.hid (blk hb7 (lt_blk HM5.out) HM5.out); have HB := Lib.hid (HB.out.trans (hb7.mono HB.out.size)); have y1 := cell_blk HM4.out 1; have y2 := cell_blk HM4.out 2;  clear ht hb7)
    | ((with_reducible refine (HRO.out _).mono ?_); rintro e w8 ⟨rfl, hb8⟩; clear y1 y2; have HM4 := Lib.hid (blk hb8 (lt_blk HM4.out) HM4.out); have HM5 := Lib.hid (blk hb8 (lt_blk HM5.out) HM5.out); have HT := Lib.hid (HT.out.below hb8); have HB := Lib.hid (HB.out.trans (hb8.mono HB.out.size)); have y1 := cell_blk HM4.out 1; have y2 := cell_blk HM4.out 2;  clear hb8)
    | ((with_reducible refine (HRR.out _).mono ?_); rintro e w9 ⟨rfl, hb9⟩; clear y1 y2; have HM4 := Lib.hid (blk hb9 (lt_blk HM4.out) HM4.out); have HM5 := Lib.hid (blk hb9 (lt_blk HM5.out) HM5.out); have HT := Lib.hid (HT.out.below hb9); have HB := Lib.hid (HB.out.trans (hb9.mono HB.out.size)); have y1 := cell_blk HM4.out 1; have y2 := cell_blk HM4.out 2;  clear hb9)
    | fail)
  clear y1 y2
  have HSRC : Hid (∀ W, Below w9.heap.size w9 W → Src W 2 (.slice al L.length cl) L.length (ltCells L)) := Lib.hid (fun W hW => src_lots (HSL.out W (HB.out.trans (hW.mono HB.out.size))))
  have HFT : Hid (∀ W, Below w9.heap.size w9 W → Calls Tryd.prog 9 #[.pointer (some ⟨bt, 0, none⟩), .agg #[.string m, .int .i64 k, .slice al L.length cl], .agg #[.string xn, .int .i64 xc]] W (RetB W r)) := Lib.hid (fun W hW => by
    have h1 := HB.out.trans (hW.mono HB.out.size)
    have := fits_any t m k L ⟨xn, xc⟩ bt bm (.slice al L.length cl) W (HAP.out W h1).1 (HSL.out W h1) (by have := HFEW.out.2.1; rw [List.length_append] at this; omega) (HT.out.below hW) HOK.out.2.1 HOK.out.1
    rwa [← HR.out] at this)
  have HGO : Hid (∀ W, Below w9.heap.size w9 W → ∀ v, W.ownsRow w9.heap.size 35 2 v (L.length + 1) (ltCells L ++ [.string xn, .int .i64 xc]) → Calls Tryd.prog 12 #[vt, .int .i64 k, v] W (RetB W r)) := Lib.hid (fun W hW v hv => by
    have h1 := HB.out.trans (hW.mono HB.out.size)
    rw [show ltCells L ++ [.string xn, .int .i64 xc] = ltCells (L ++ [Lt.mk xn xc]) by rw [ltCells_append]; rfl] at hv
    have := refGo_any t k (L ++ [Lt.mk xn xc]) vt v W (HSB.out W h1) (own_lots hv (by simp)) (fun y hy => by
      rcases List.mem_append.1 hy with h | h
      · exact HFX.out.1 y h
      · rw [List.mem_singleton.1 h]; exact HFX.out.2) HFEW.out.2.2.len HFEW.out.2.2.cnt HOK.out.1
    rwa [← HR.out] at this)
  refine Any.region_lit (fun
    | 0 => Any.val (.int .i64 rw)
    | 1 => Any.val (.int .i64 rw)
    | 2 => Any.val (.bool false)
    | 3 => Any.val (.bool false)
    | 4 => Any.val (.int .i64 rv)
    | 5 => Any.val (.int .i64 rv)
    | 6 => Any.val (.bool false)
    | 7 => Any.val (.bool false)
    | 8 => Any.val (.bool false)
    | 9 => Any.val (.pointer (some ⟨bt, 0, none⟩))
    | 10 => Any.val (.agg #[.string m, .int .i64 k, .slice al L.length cl])
    | 11 => Any.val (.agg #[.string xn, .int .i64 xc])
    | 12 => Any.val (.bool r)
    | 13 => Any.val (vt)
    | 14 => Any.val (.pointer (some ⟨b4, 1, none⟩))
    | 15 => Any.val (.int .i64 k)
    | 16 => Any.row w9.heap.size 35 2 (0) ([]) []
    | 17 => Any.val (.pointer (some ⟨b4, 2, none⟩))
    | 18 => Any.val (.slice al L.length cl)
    | 19 => Any.row w9.heap.size 35 2 (L.length) (ltCells L) [16]
    | 20 => Any.val (.agg #[.string xn, .int .i64 xc])
    | 21 => Any.made 35 1 #[.string xn, .int .i64 xc]
    | 22 => Any.row w9.heap.size 35 2 (L.length + 1) (ltCells L ++ [.string xn, .int .i64 xc]) [19]
    | 23 => Any.val (.bool r)
    | 24 => Any.val (.bool false)
    | 25 => Any.val (.bool false)
    | _ => Any.idle) (by kernel_rfl) (by kernel_rfl) (by kernel_rfl) ?_ ?_ ?_
  · intro i _
    match i with
    | 0 => exact Any.lasts_val _
    | 1 => exact Any.lasts_val _
    | 2 => exact Any.lasts_val _
    | 3 => exact Any.lasts_val _
    | 4 => exact Any.lasts_val _
    | 5 => exact Any.lasts_val _
    | 6 => exact Any.lasts_val _
    | 7 => exact Any.lasts_val _
    | 8 => exact Any.lasts_val _
    | 9 => exact Any.lasts_val _
    | 10 => exact Any.lasts_val _
    | 11 => exact Any.lasts_val _
    | 12 => exact Any.lasts_val _
    | 13 => exact Any.lasts_val _
    | 14 => exact Any.lasts_val _
    | 15 => exact Any.lasts_val _
    | 16 => exact Any.lasts_row _ _ _ _ _ _
    | 17 => exact Any.lasts_val _
    | 18 => exact Any.lasts_val _
    | 19 => exact Any.lasts_row _ _ _ _ _ _
    | 20 => exact Any.lasts_val _
    | 21 => exact Any.lasts_made _ _ _
    | 22 => exact Any.lasts_row _ _ _ _ _ _
    | 23 => exact Any.lasts_val _
    | 24 => exact Any.lasts_val _
    | 25 => exact Any.lasts_val _
    | n + 26 => exact Any.lasts_idle
  · refine ⟨?_, ?_, ?_, ?_, ?_, ?_, ?_, ?_, ?_, ?_, ?_, ?_, ?_, ?_, ?_, ?_, ?_, ?_, ?_, ?_, ?_, ?_, ?_, ?_, ?_, ?_, trivial⟩
    · refine Any.owes_plain rfl fun ρ wo hs' hb hc' => ?_
      have h8 : ρ (.tmp 8) = .int .i64 rw := hs'.old' 8 (by kernel_rfl)
      exact Any.ok_move (Any.post_val hb rfl h8)
    · refine Any.owes_plain rfl fun ρ wo hs' hb hc' => ?_
      have h10 : ρ (.tmp 10) = .int .i64 rw := hs'.old' 10 (by kernel_rfl)
      exact Any.ok_move (Any.post_val hb rfl h10)
    · refine Any.owes_plain rfl fun ρ wo hs' hb hc' => ?_
      have h47 : ρ (.tmp 47) = .int .i64 rw := hs'.new' 47 0 (by kernel_rfl)
      have h48 : ρ (.tmp 48) = .int .i64 rw := hs'.new' 48 1 (by kernel_rfl)
      go_simp
      exact Any.post_val hb rfl rfl
    · refine Any.owes_plain rfl fun ρ wo hs' hb hc' => ?_
      have h49 : ρ (.tmp 49) = .bool false := hs'.new' 49 2 (by kernel_rfl)
      exact Any.ok_move (Any.post_val hb rfl h49)
    · refine Any.owes_on rfl rfl (by kernel_rfl) rfl fun ρ wo hs' hb hc' => ?_
      have h9 : ρ (.tmp 9) = .int .i64 rv := hs'.old' 9 (by kernel_rfl)
      exact Any.ok_move (Any.post_val hb rfl h9)
    · refine Any.owes_on rfl rfl (by kernel_rfl) rfl fun ρ wo hs' hb hc' => ?_
      have h11 : ρ (.tmp 11) = .int .i64 rv := hs'.old' 11 (by kernel_rfl)
      exact Any.ok_move (Any.post_val hb rfl h11)
    · refine Any.owes_on rfl rfl (by kernel_rfl) rfl fun ρ wo hs' hb hc' => ?_
      have h51 : ρ (.tmp 51) = .int .i64 rv := hs'.new' 51 4 (by kernel_rfl)
      have h52 : ρ (.tmp 52) = .int .i64 rv := hs'.new' 52 5 (by kernel_rfl)
      go_simp
      exact Any.post_val hb rfl rfl
    · refine Any.owes_plain rfl fun ρ wo hs' hb hc' => ?_
      have h50 : ρ (.tmp 50) = .bool false := hs'.new' 50 3 (by kernel_rfl)
      have h53 : ρ (.tmp 53) = .bool false := hs'.new' 53 6 (by kernel_rfl)
      go_simp
      exact Any.post_val hb rfl rfl
    · refine Any.owes_plain rfl fun ρ wo hs' hb hc' => ?_
      have h54 : ρ (.tmp 54) = .bool false := hs'.new' 54 7 (by kernel_rfl)
      exact Any.ok_move (Any.post_val hb rfl h54)
    · refine Any.owes_on rfl rfl (by kernel_rfl) rfl fun ρ wo hs' hb hc' => ?_
      have h7 : ρ (.tmp 7) = .pointer (some ⟨bt, 0, none⟩) := hs'.old' 7 (by kernel_rfl)
      exact Any.ok_move (Any.post_val hb rfl h7)
    · refine Any.owes_on rfl rfl (by kernel_rfl) rfl fun ρ wo hs' hb hc' => ?_
      have h4 : ρ (.tmp 4) = .pointer (some ⟨b4, 0, none⟩) := hs'.old' 4 (by kernel_rfl)
      have c0 : wo.cell? ⟨b4, 0, none⟩ = some (.string m) := cell_blk (blk (below_undrew hb) (lt_blk HM4.out) HM4.out) 0
      have c1 : wo.cell? ⟨b4, 1, none⟩ = some (.int .i64 k) := cell_blk (blk (below_undrew hb) (lt_blk HM4.out) HM4.out) 1
      have c2 : wo.cell? ⟨b4, 2, none⟩ = some (.slice al L.length cl) := cell_blk (blk (below_undrew hb) (lt_blk HM4.out) HM4.out) 2
      go_simp
      exact Any.post_val hb rfl rfl
    · refine Any.owes_on rfl rfl (by kernel_rfl) rfl fun ρ wo hs' hb hc' => ?_
      have h5 : ρ (.tmp 5) = .pointer (some ⟨b5, 0, none⟩) := hs'.old' 5 (by kernel_rfl)
      have c0 : wo.cell? ⟨b5, 0, none⟩ = some (.string xn) := cell_blk (blk (below_undrew hb) (lt_blk HM5.out) HM5.out) 0
      have c1 : wo.cell? ⟨b5, 1, none⟩ = some (.int .i64 xc) := cell_blk (blk (below_undrew hb) (lt_blk HM5.out) HM5.out) 1
      go_simp
      exact Any.post_val hb rfl rfl
    · refine Any.owes_on rfl rfl (by kernel_rfl) rfl fun ρ wo hs' hb hc' => ?_
      have h56 : ρ (.tmp 56) = .pointer (some ⟨bt, 0, none⟩) := hs'.new' 56 9 (by kernel_rfl)
      have h57 : ρ (.tmp 57) = .agg #[.string m, .int .i64 k, .slice al L.length cl] := hs'.new' 57 10 (by kernel_rfl)
      have h58 : ρ (.tmp 58) = .agg #[.string xn, .int .i64 xc] := hs'.new' 58 11 (by kernel_rfl)
      have hf := hs'.func 9
      go_simp
      exact (HFT.out wo (below_undrew hb)).mono fun e w' ⟨he, hb'⟩ => ⟨_, he, Any.post_vals hb rfl rfl hb'⟩
    · refine Any.owes_on rfl rfl (by kernel_rfl) rfl fun ρ wo hs' hb hc' => ?_
      have h0 : ρ (.tmp 0) = vt := hs'.old' 0 (by kernel_rfl)
      exact Any.ok_move (Any.post_val hb rfl h0)
    · refine Any.owes_on rfl rfl (by kernel_rfl) rfl fun ρ wo hs' hb hc' => ?_
      have h4 : ρ (.tmp 4) = .pointer (some ⟨b4, 0, none⟩) := hs'.old' 4 (by kernel_rfl)
      go_simp
      exact Any.post_val hb rfl rfl
    · refine Any.owes_on rfl rfl (by kernel_rfl) rfl fun ρ wo hs' hb hc' => ?_
      have h61 : ρ (.tmp 61) = .pointer (some ⟨b4, 1, none⟩) := hs'.new' 61 14 (by kernel_rfl)
      have c0 : wo.cell? ⟨b4, 1, none⟩ = some (.int .i64 k) := cell_blk (blk (below_undrew hb) (lt_blk HM4.out) HM4.out) 1
      go_simp
      exact Any.post_val hb rfl rfl
    · refine Any.owes_on rfl rfl (by kernel_rfl) rfl fun ρ wo hs' hb hc' => ?_
      go_simp
      exact Any.post_new hb (own_empty (show w9.heap.size ≤ wo.heap.size from hb.size)) (one_below _ _) (by intro b hb'; obtain rfl : wo.heap.size = b := Option.some.inj hb'; exact Nat.le_refl _)
    · refine Any.owes_on rfl rfl (by kernel_rfl) rfl fun ρ wo hs' hb hc' => ?_
      have h4 : ρ (.tmp 4) = .pointer (some ⟨b4, 0, none⟩) := hs'.old' 4 (by kernel_rfl)
      go_simp
      exact Any.post_val hb rfl rfl
    · refine Any.owes_on rfl rfl (by kernel_rfl) rfl fun ρ wo hs' hb hc' => ?_
      have h64 : ρ (.tmp 64) = .pointer (some ⟨b4, 2, none⟩) := hs'.new' 64 17 (by kernel_rfl)
      have c0 : wo.cell? ⟨b4, 2, none⟩ = some (.slice al L.length cl) := cell_blk (blk (below_undrew hb) (lt_blk HM4.out) HM4.out) 2
      go_simp
      exact Any.post_val hb rfl rfl
    · refine Any.owes_on rfl rfl (by kernel_rfl) rfl fun ρ wo hs' hb hc' => ?_
      have h65 : ρ (.tmp 65) = .slice al L.length cl := hs'.new' 65 18 (by kernel_rfl)
      have h8 : wo.ownsRow w9.heap.size 35 2 (ρ (.tmp 63)) 0 [] := hs'.new' 63 16 (by kernel_rfl)
      have hsrc : Src wo 2 (ρ (.tmp 65)) L.length (ltCells L) := by rw [h65]; exact HSRC.out wo (below_undrew hb)
      refine Any.ok_append_own Tryd.underlying23 HI.out.1 HI.out.2.1 HI.out.2.2.1 HI.out.2.2.2 rfl (by decide) h8 hsrc (ltCells_one _) (by have := HL.out.1; omega) (by have := HL.out.2; omega) (show w9.heap.size ≤ wo.heap.size from hb.size) fun v' w' h1 h2 h3 => ?_
      rw [List.nil_append, Nat.zero_add] at h1
      exact Any.post_take hb h1 h2 rfl ⟨_, _, _, rfl⟩ rfl rfl (Nat.le_refl _) h3 (fun b hb => (h8.lt b hb).1)
    · refine Any.owes_on rfl rfl (by kernel_rfl) rfl fun ρ wo hs' hb hc' => ?_
      have h5 : ρ (.tmp 5) = .pointer (some ⟨b5, 0, none⟩) := hs'.old' 5 (by kernel_rfl)
      have c0 : wo.cell? ⟨b5, 0, none⟩ = some (.string xn) := cell_blk (blk (below_undrew hb) (lt_blk HM5.out) HM5.out) 0
      have c1 : wo.cell? ⟨b5, 1, none⟩ = some (.int .i64 xc) := cell_blk (blk (below_undrew hb) (lt_blk HM5.out) HM5.out) 1
      go_simp
      exact Any.post_val hb rfl rfl
    · refine Any.owes_on rfl rfl (by kernel_rfl) rfl fun ρ wo hs' hb hc' => ?_
      have h67 : ρ (.tmp 67) = .agg #[.string xn, .int .i64 xc] := hs'.new' 67 20 (by kernel_rfl)
      go_simp
      exact Any.post_new hb ⟨_, rfl, heap_alloc_new _ _⟩ (one_below _ _) (by intro b hb'; obtain rfl : wo.heap.size = b := Option.some.inj hb'; exact Nat.le_refl _)
    · refine Any.owes_on rfl rfl (by kernel_rfl) rfl fun ρ wo hs' hb hc' => ?_
      have h8 : wo.ownsRow w9.heap.size 35 2 (ρ (.tmp 66)) (L.length) (ltCells L) := hs'.new' 66 19 (by kernel_rfl)
      obtain ⟨g, hg, hgb⟩ := hs'.new' 68 21 (by kernel_rfl)
      have hsrc : Src wo 2 (ρ (.tmp 68)) 1 [.string xn, .int .i64 xc] := by rw [hg]; exact src_block hgb rfl
      refine Any.ok_append_own Tryd.underlying23 HI.out.1 HI.out.2.1 HI.out.2.2.1 HI.out.2.2.2 rfl (by decide) h8 hsrc (lt_one xn xc) HL.out.1 HL.out.2 (show w9.heap.size ≤ wo.heap.size from hb.size) fun v' w' h1 h2 h3 => ?_
      exact Any.post_take hb h1 h2 rfl ⟨_, _, _, rfl⟩ rfl rfl (Nat.le_refl _) h3 (fun b hb => (h8.lt b hb).1)
    · refine Any.owes_on rfl rfl (by kernel_rfl) rfl fun ρ wo hs' hb hc' => ?_
      have h60 : ρ (.tmp 60) = vt := hs'.new' 60 13 (by kernel_rfl)
      have h62 : ρ (.tmp 62) = .int .i64 k := hs'.new' 62 15 (by kernel_rfl)
      have hf := hs'.func 12
      have h8 : wo.ownsRow w9.heap.size 35 2 (ρ (.tmp 69)) (L.length + 1) (ltCells L ++ [.string xn, .int .i64 xc]) := hs'.new' 69 22 (by kernel_rfl)
      go_simp
      exact (HGO.out wo (below_undrew hb) _ h8).mono fun e w' ⟨he, hb'⟩ => ⟨_, he, Any.post_vals hb rfl rfl hb'⟩
    · refine Any.owes_on rfl rfl (by kernel_rfl) rfl fun ρ wo hs' hb hc' => ?_
      have h59 : ρ (.tmp 59) = .bool r := hs'.new' 59 12 (by kernel_rfl)
      have h70 : ρ (.tmp 70) = .bool r := hs'.new' 70 23 (by kernel_rfl)
      go_simp
      exact Any.post_val hb rfl rfl
    · refine Any.owes_plain rfl fun ρ wo hs' hb hc' => ?_
      have h55 : ρ (.tmp 55) = .bool false := hs'.new' 55 8 (by kernel_rfl)
      have h71 : ρ (.tmp 71) = .bool false := hs'.new' 71 24 (by kernel_rfl)
      go_simp
      exact Any.post_val hb rfl rfl
  intro vals wA hb hk ha
  have h25 : vals 25 = .bool false := hk 25 (by kernel_rfl)
  have HB := Lib.hid (HB.out.trans (hb.mono HB.out.size))
  have HT := Lib.hid (HT.out.below hb)
  have HM4 := Lib.hid (blk hb (lt_blk HM4.out) HM4.out)
  have HM5 := Lib.hid (blk hb (lt_blk HM5.out) HM5.out)
  clear hk ha hb
  simp only [Any.putAll]
  go_frame
  simp only [Nat.zero_add, Nat.reduceAdd]
  rw [h25]
  clear h25
  clear HFT HGO HSRC
  obtain ⟨n, hv, hn⟩ := sumV_is t Gd.wt L
  have HWE := Lib.hid (fun W (hW : Below w.heap.size w W) (h : Tab W bt bm t) => weigh_any t m k L n (sumC t Gd.wt L) bt bm (.slice al L.length cl) W (HSL.out W hW) h HOK.out.2.1 HOK.out.1 hv)
  have HRS := Lib.hid (fun W (hW : Below w.heap.size w W) => refWeight_any t L vt (.slice al L.length cl) W (HSB.out W hW) (HSL.out W hW) HFX.out.1 (by have := HFEW.out.2.1; rw [List.length_append] at this; omega) HOK.out.1)
  rw [hv] at HRS
  clear hv hn
  generalize sumC t Gd.wt L = q at *
  have y0 := cell_blk HM4.out 0
  have y1 := cell_blk HM4.out 1
  have y2 := cell_blk HM4.out 2
  have tq : (q == q) = true := by simp
  have tn : (n == n) = true := by simp
  by_cases hneg : k < 0
  · have t3 : decide (k < 0) = true := decide_eq_true hneg
    have hW : weiV k n q = .tuple #[.int .i64 0, .int .i64 1] := by rw [weiV, if_neg]; rw [show kindOk k = false by unfold kindOk; rw [decide_eq_false (by omega), decide_eq_false (by omega)]; rfl]; decide
    clear hneg
    rw [hW] at HWE
    clear hW
    go_wp2_with (first
      | ((with_reducible refine (HWE.out _ HB.out HT.out).mono ?_); rintro e wB ⟨rfl, hbB⟩; clear y0 y1 y2; have HM4 := Lib.hid (blk hbB (lt_blk HM4.out) HM4.out); have HM5 := Lib.hid (blk hbB (lt_blk HM5.out) HM5.out); have HT := Lib.hid (HT.out.below hbB); have HB := Lib.hid (HB.out.trans (hbB.mono HB.out.size)); have y1 := cell_blk HM4.out 1; have y2 := cell_blk HM4.out 2;  clear hbB)
      | ((with_reducible refine (HRS.out _ HB.out).mono ?_); rintro e wC ⟨rfl, hbC⟩; clear y1 y2; have HM4 := Lib.hid (blk hbC (lt_blk HM4.out) HM4.out); have HM5 := Lib.hid (blk hbC (lt_blk HM5.out) HM5.out); have HT := Lib.hid (HT.out.below hbC); have HB := Lib.hid (HB.out.trans (hbC.mono HB.out.size)); have y1 := cell_blk HM4.out 1; have y2 := cell_blk HM4.out 2;  clear hbC)
      | fail)
    go_ret
    exact ⟨rfl, HB.out⟩
  have t3 : decide (k < 0) = false := decide_eq_false hneg
  by_cases hbig : 1 < k
  · have t4 : decide (1 < k) = true := decide_eq_true hbig
    have hW : weiV k n q = .tuple #[.int .i64 0, .int .i64 1] := by rw [weiV, if_neg]; rw [show kindOk k = false by unfold kindOk; rw [decide_eq_false (by omega), decide_eq_false (by omega)]; rfl]; decide
    clear hneg hbig
    rw [hW] at HWE
    clear hW
    go_wp2_with (first
      | ((with_reducible refine (HWE.out _ HB.out HT.out).mono ?_); rintro e wB ⟨rfl, hbB⟩; clear y0 y1 y2; have HM4 := Lib.hid (blk hbB (lt_blk HM4.out) HM4.out); have HM5 := Lib.hid (blk hbB (lt_blk HM5.out) HM5.out); have HT := Lib.hid (HT.out.below hbB); have HB := Lib.hid (HB.out.trans (hbB.mono HB.out.size)); have y1 := cell_blk HM4.out 1; have y2 := cell_blk HM4.out 2;  clear hbB)
      | ((with_reducible refine (HRS.out _ HB.out).mono ?_); rintro e wC ⟨rfl, hbC⟩; clear y1 y2; have HM4 := Lib.hid (blk hbC (lt_blk HM4.out) HM4.out); have HM5 := Lib.hid (blk hbC (lt_blk HM5.out) HM5.out); have HT := Lib.hid (HT.out.below hbC); have HB := Lib.hid (HB.out.trans (hbC.mono HB.out.size)); have y1 := cell_blk HM4.out 1; have y2 := cell_blk HM4.out 2;  clear hbC)
      | fail)
    go_ret
    exact ⟨rfl, HB.out⟩
  have t4 : decide (1 < k) = false := decide_eq_false hbig
  have hkind : kindOk k = true := by
    have : k = 0 ∨ k = 1 := by omega
    rcases this with rfl | rfl <;> rfl
  clear hneg hbig
  by_cases hq : q = 0
  rotate_left
  · have t5 : (q != 0) = true := by simp [hq]
    have hW : weiV k n q = .tuple #[.int .i64 0, .int .i64 q] := by rw [weiV, if_pos hkind, if_neg hq]
    clear hkind hq
    rw [hW] at HWE
    clear hW
    go_wp2_with (first
      | ((with_reducible refine (HWE.out _ HB.out HT.out).mono ?_); rintro e wB ⟨rfl, hbB⟩; clear y0 y1 y2; have HM4 := Lib.hid (blk hbB (lt_blk HM4.out) HM4.out); have HM5 := Lib.hid (blk hbB (lt_blk HM5.out) HM5.out); have HT := Lib.hid (HT.out.below hbB); have HB := Lib.hid (HB.out.trans (hbB.mono HB.out.size)); have y1 := cell_blk HM4.out 1; have y2 := cell_blk HM4.out 2;  clear hbB)
      | ((with_reducible refine (HRS.out _ HB.out).mono ?_); rintro e wC ⟨rfl, hbC⟩; clear y1 y2; have HM4 := Lib.hid (blk hbC (lt_blk HM4.out) HM4.out); have HM5 := Lib.hid (blk hbC (lt_blk HM5.out) HM5.out); have HT := Lib.hid (HT.out.below hbC); have HB := Lib.hid (HB.out.trans (hbC.mono HB.out.size)); have y1 := cell_blk HM4.out 1; have y2 := cell_blk HM4.out 2;  clear hbC)
      | fail)
    go_ret
    exact ⟨rfl, HB.out⟩
  have t5 : (q != 0) = false := by simp [hq]
  by_cases hn1 : 1048576 < n
  · have t6 : decide (1048576 < n) = true := decide_eq_true hn1
    have hW : weiV k n q = .tuple #[.int .i64 0, .int .i64 3] := by rw [weiV, if_pos hkind, if_pos hq, if_pos hn1]
    clear hkind hq hn1
    rw [hW] at HWE
    clear hW
    go_wp2_with (first
      | ((with_reducible refine (HWE.out _ HB.out HT.out).mono ?_); rintro e wB ⟨rfl, hbB⟩; clear y0 y1 y2; have HM4 := Lib.hid (blk hbB (lt_blk HM4.out) HM4.out); have HM5 := Lib.hid (blk hbB (lt_blk HM5.out) HM5.out); have HT := Lib.hid (HT.out.below hbB); have HB := Lib.hid (HB.out.trans (hbB.mono HB.out.size)); have y1 := cell_blk HM4.out 1; have y2 := cell_blk HM4.out 2;  clear hbB)
      | ((with_reducible refine (HRS.out _ HB.out).mono ?_); rintro e wC ⟨rfl, hbC⟩; clear y1 y2; have HM4 := Lib.hid (blk hbC (lt_blk HM4.out) HM4.out); have HM5 := Lib.hid (blk hbC (lt_blk HM5.out) HM5.out); have HT := Lib.hid (HT.out.below hbC); have HB := Lib.hid (HB.out.trans (hbC.mono HB.out.size)); have y1 := cell_blk HM4.out 1; have y2 := cell_blk HM4.out 2;  clear hbC)
      | fail)
    go_ret
    exact ⟨rfl, HB.out⟩
  · have t6 : decide (1048576 < n) = false := decide_eq_false hn1
    have hW : weiV k n q = .tuple #[.int .i64 n, .int .i64 0] := by rw [weiV, if_pos hkind, if_pos hq, if_neg hn1]
    clear hkind hq hn1
    rw [hW] at HWE
    clear hW
    go_wp2_with (first
      | ((with_reducible refine (HWE.out _ HB.out HT.out).mono ?_); rintro e wB ⟨rfl, hbB⟩; clear y0 y1 y2; have HM4 := Lib.hid (blk hbB (lt_blk HM4.out) HM4.out); have HM5 := Lib.hid (blk hbB (lt_blk HM5.out) HM5.out); have HT := Lib.hid (HT.out.below hbB); have HB := Lib.hid (HB.out.trans (hbB.mono HB.out.size)); have y1 := cell_blk HM4.out 1; have y2 := cell_blk HM4.out 2;  clear hbB)
      | ((with_reducible refine (HRS.out _ HB.out).mono ?_); rintro e wC ⟨rfl, hbC⟩; clear y1 y2; have HM4 := Lib.hid (blk hbC (lt_blk HM4.out) HM4.out); have HM5 := Lib.hid (blk hbC (lt_blk HM5.out) HM5.out); have HT := Lib.hid (HT.out.below hbC); have HB := Lib.hid (HB.out.trans (hbC.mono HB.out.size)); have y1 := cell_blk HM4.out 1; have y2 := cell_blk HM4.out 2;  clear hbC)
      | fail)
    go_ret
    exact ⟨rfl, HB.out⟩
end Go.Proofs.YtgnfdplphpejaaaDoor.Sc
namespace Go.Proofs.YtgnfdplphpejaaaDoor.packFits
open Go.ChangeShapes Go.WideShapes Go.ChangeAt Go.RowKit Go Sc
set_option maxRecDepth 100000
theorem lifted (os : Os) (started : os.Started) (H : Type) (enc : TypeId × Value → H) :
    ReturnsInHanded {} Tryd.checked os 4 .any (fun w args => (Rows.packFitsSpec.pre enc Tryd.prog Tryd.f4 [] false w args ∧ laidMetH Tryd.prog laidA w) ∧ sizedMet enc Tryd.prog Tryd.f4 (OpenSpec.ofChange Rows.packFitsSpec) false w args) (Rows.packFitsSpec.post enc Tryd.prog Tryd.f4 false true false false) := by
  refine law_liftedDs os started (by kernel_rfl) Tryd.func4
    (ChangeSpec.witness_shaped (enc := enc) (C := Tryd.checked) (os := os) (X := fun w _ => laidMetH Tryd.prog laidA w) false (World.doorLaid Tryd.prog 400 os) #[.slice none 0 0, .agg #[.string ⟨#[]⟩, .int .i64 0, .slice none 0 0], .agg #[.string ⟨#[]⟩, .int .i64 0]] 8 rfl (World.shaped_of_RefB (by kernel_rfl) (by kernel_rfl)) (by kernel_rfl) (by kernel_rfl) (by kernel_rfl) (door_met os _))
    (by kernel_rfl) rfl rfl ?_ ?_
  · intro vs ds W p hA
    rw [Tryd.params4] at hA
    obtain ⟨v0, vs0, d0, ds0, p0, q0, rfl, rfl, rfl, h0, r0⟩ := trodAll_cons hA
    obtain ⟨v1, vs1, d1, ds1, p1, q1, rfl, rfl, rfl, h1, r1⟩ := trodAll_cons r0
    obtain ⟨v2, vs2, d2, ds2, p2, q2, rfl, rfl, rfl, h2, r2⟩ := trodAll_cons r1
    obtain ⟨rfl, rfl, rfl⟩ := trodAll_nil r2
    rfl
  · intro W base args ds p hap hval hz hA
    rw [Tryd.params4] at hA hval hz
    obtain ⟨v0, vs0, d0, ds0, p0, q0, hargs, rfl, rfl, h0, r0⟩ := trodAll_cons hA
    obtain ⟨v1, vs1, d1, ds1, p1, q1, rfl, rfl, rfl, h1, r1⟩ := trodAll_cons r0
    obtain ⟨v2, vs2, d2, ds2, p2, q2, rfl, rfl, rfl, h2, r2⟩ := trodAll_cons r1
    obtain ⟨rfl, rfl, rfl⟩ := trodAll_nil r2
    obtain rfl : args = #[v0, v1, v2] := by cases args; simp_all
    obtain ⟨l0, hs0, hf0⟩ := open_goods (hval 0 22 v0 rfl rfl) h0
    obtain ⟨t1, rfl, hs1, w1, z1⟩ := open_boxs (hval 1 33 v1 rfl rfl) h1 (fun n hn => by have := List.all_eq_true.1 hz n (DataW.weights_mem_each (j := 1) rfl rfl n hn); simpa using this)
    obtain ⟨x2, rfl, w2⟩ := open_lot (hval 2 35 v2 rfl rfl) h2
    exact walk W hap l0 v0 hs0 hf0 t1 hs1 w1 z1 x2 w2

theorem over : Rows.packFitsRow.holds Tryd.pinned (OpenSpec.ofChange Rows.packFitsSpec) :=
  OpenClaim.holds_of_wide 4 Tryd.f4 rfl rfl rfl rfl rfl rfl rfl ⟨rfl, rfl, rfl, rfl, rfl⟩ rfl rfl rfl rfl rfl (by kernel_rfl) Tryd.func4 (by kernel_rfl)
    (of_decide_eq_true (by kernel_rfl)) (by unfold Func.isWrapper; rw [if_neg (by decide +kernel)]; exact ⟨rfl, rfl⟩)
    (fun os started H enc _ => lifted os started H enc)

/-- The statement. -/
theorem proved : Rows.PackFitsCardSaid :=
  Claim7.holds_tied_plain_at .later [] [.data, .data, .data, .data] true _ false
    over (fun _ h => by cases h) (by kernel_rfl) (fun _ h => by cases h) packFits_row_tie rfl ⟨rfl, rfl⟩ (by kernel_rfl) rfl
    (fun f fn hf hfn => by
      obtain rfl : f = 4 := Option.some.inj (hf.symm.trans (by kernel_rfl))
      obtain rfl : fn = Tryd.f4 := (Option.some.inj (Tryd.func4.symm.trans hfn)).symm
      exact ⟨by kernel_rfl, fun j t ht => by
        have hall : (Tryd.f4.params.toList.all fun u => !Tryd.prog.wantsStandIn u) = true := by kernel_rfl
        have hm : t ∈ Tryd.f4.params.toList := by simpa using Array.mem_of_getElem? ht
        exact (show Tryd.prog.wantsStandIn t = false by simpa using List.all_eq_true.1 hall t hm)⟩)
    (by kernel_rfl)
#print axioms proved
end Go.Proofs.YtgnfdplphpejaaaDoor.packFits
