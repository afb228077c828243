/- The reference's Enter. -/
import Derived.Test.YtehlhfcaajhhaaaState45
namespace Go.Proofs.Ytehlhfcaajhhaaa.Sc
open Go Go.RowKit Go.ChangeShapes Go.WideShapes Go.ChangeAt
set_option maxRecDepth 100000

theorem bAt_no {l : List Bx} {n : ByteArray} (h : hasB l n = false) : bAt n 0 l = -1 := by
  rcases bAt_find n l 0 with ⟨h1, -⟩ | ⟨j, hj, -, h2⟩
  · exact h1
  · rw [boxOf_has h2] at h; cases h
theorem bAt_yes {l : List Bx} {n : ByteArray} (h : hasB l n = true) : 0 ≤ bAt n 0 l := by
  rcases bAt_find n l 0 with ⟨-, h1⟩ | ⟨j, hj, h1, -⟩
  · rw [boxOf_none h1] at h; cases h
  · rw [h1]; omega
set_option maxHeartbeats 8000000 in
theorem refEnter_any (l : List Bx) (limit : Int) (n : ByteArray) (d y : Int) (v : Value) (w : World) (hs : Sl w 4 v (l.map Bx.row)) (hl : l.length ≤ 4000) (hg : ∀ b ∈ l, b.good) (hu : usedOf l ≤ 1099511627776) (hn0 : n.size ≤ 9223372036854775807) :
    Calls Try.prog 36 #[v, .int .i64 limit, .string n, .int .i64 d, .int .i64 y] w (RefP w v (enterL l (limOf limit) n d y) (enterC l (limOf limit) n d y)) := by
  have HS := Lib.hid hs
  have HN := Lib.hid (fun W => refName5_any n W hn0)
  have HA := Lib.hid (fun W (h : Sl W 4 v (l.map Bx.row)) => bAt_any l n v W h)
  have HU := Lib.hid (fun W (h : Sl W 4 v (l.map Bx.row)) => refUsed_any l v W h hg hu)
  have HLI := Lib.hid (fun W => limit_any limit W)
  obtain ⟨L, hL⟩ : ∃ L, L = limOf limit := ⟨_, rfl⟩
  rw [← hL] at HLI ⊢
  have hLr : 0 ≤ L ∧ L ≤ 1099511627776 := by rw [hL]; exact lim_rng limit
  have hU0 := used_nonneg hg
  obtain ⟨i0, hi, hz, hsz, hby⟩ := info_parts infoBx
  have HI := Lib.hid (And.intro hi (And.intro hz (And.intro hsz hby)))
  clear hi hz hsz hby
  obtain ⟨a, c, rfl⟩ : ∃ a c, v = .slice a l.length c := by simpa using hs.shape
  have HQL0 : Hid (∀ c, enterC l L n d y = c → ¬ c = 0 → enterL l L n d y = l) := Lib.hid (fun c h h0 => by rw [enterL, if_neg (by rw [h]; exact h0)])
  have HSRC : Hid (∀ W, Below w.heap.size w W → Src W 4 (.slice a l.length c) l.length (bxCells l)) := Lib.hid (fun W hW => by
    have := (hs.below hW (Nat.le_refl _)).src (bx_rows l) (by decide)
    rw [bxCells_flat]
    simpa using this)
  clear hs hL hn0
  cases hn : nameOk n
  · have HQ : Hid (enterC l L n d y = 1) := Lib.hid (by rw [enterC, if_pos hn])
    have HQL := Lib.hid (HQL0.out _ HQ.out (by decide))
    rw [hn] at HN
    clear hn hg hu hU0 hLr
    go_enter Try.func36, Try.ntmps36
    go_wp2_with (first
      | ((with_reducible refine (HN.out _).mono ?_); rintro e w1 ⟨rfl, hb1⟩; have HB := Lib.hid hb1; clear hb1)
      | fail)
    go_ret2
    exact refP_same HS.out HB.out HQL.out HQ.out
  · rw [hn] at HN
    by_cases hr : outB d y
    · have HQ : Hid (enterC l L n d y = 3) := Lib.hid (by rw [enterC, if_neg (by rw [hn]; decide), if_pos hr])
      have HQL := Lib.hid (HQL0.out _ HQ.out (by decide))
      unfold outB at hr
      clear hn hg hu hU0 hLr
      by_cases r1 : d < 0
      · have t1 : decide (d < 0) = true := decide_eq_true r1
        clear hr r1
        go_enter Try.func36, Try.ntmps36
        go_wp2_with (first
          | ((with_reducible refine (HN.out _).mono ?_); rintro e w1 ⟨rfl, hb1⟩; have HB := Lib.hid hb1; clear hb1)
          | fail)
        go_ret2
        exact refP_same HS.out HB.out HQL.out HQ.out
      · have t1 : decide (d < 0) = false := decide_eq_false r1
        by_cases r2 : 1099511627776 < d
        · have t2 : decide (1099511627776 < d) = true := decide_eq_true r2
          clear hr r1 r2
          go_enter Try.func36, Try.ntmps36
          go_wp2_with (first
            | ((with_reducible refine (HN.out _).mono ?_); rintro e w1 ⟨rfl, hb1⟩; have HB := Lib.hid hb1; clear hb1)
            | fail)
          go_ret2
          exact refP_same HS.out HB.out HQL.out HQ.out
        · have t2 : decide (1099511627776 < d) = false := decide_eq_false r2
          by_cases r3 : y < 0
          · have t3 : decide (y < 0) = true := decide_eq_true r3
            clear hr r1 r2 r3
            go_enter Try.func36, Try.ntmps36
            go_wp2_with (first
              | ((with_reducible refine (HN.out _).mono ?_); rintro e w1 ⟨rfl, hb1⟩; have HB := Lib.hid hb1; clear hb1)
              | fail)
            go_ret2
            exact refP_same HS.out HB.out HQL.out HQ.out
          · have t3 : decide (y < 0) = false := decide_eq_false r3
            have t4 : decide (1048576 < y) = true := decide_eq_true (by omega)
            clear hr r1 r2 r3
            go_enter Try.func36, Try.ntmps36
            go_wp2_with (first
              | ((with_reducible refine (HN.out _).mono ?_); rintro e w1 ⟨rfl, hb1⟩; have HB := Lib.hid hb1; clear hb1)
              | fail)
            go_ret2
            exact refP_same HS.out HB.out HQL.out HQ.out
    · have hr0 := hr
      unfold outB at hr
      have t1 : decide (d < 0) = false := decide_eq_false (by omega)
      have t2 : decide (1099511627776 < d) = false := decide_eq_false (by omega)
      have t3 : decide (y < 0) = false := decide_eq_false (by omega)
      have t4 : decide (1048576 < y) = false := decide_eq_false (by omega)
      have hd : 0 ≤ d ∧ d ≤ 1099511627776 := by omega
      obtain ⟨m, hm⟩ : ∃ m, m = bAt n 0 l := ⟨_, rfl⟩
      rw [← hm] at HA
      cases hh : hasB l n
      · have t5 : decide (0 ≤ m) = false := decide_eq_false (by rw [hm, bAt_no hh]; decide)
        have t6 : decide ((4096 : Int) ≤ (l.length : Int)) = false := decide_eq_false (by omega)
        have HQ0 : Hid (enterC l L n d y = if L < usedOf l + d then 10 else 0) := Lib.hid (by rw [enterC, if_neg (by rw [hn]; decide), if_neg hr0, if_neg (by rw [hh]; decide), if_neg (by omega)])
        have HL : Hid (l.length + 1 ≤ maxLen ∧ (l.length + 1) * 40 ≤ 140737488355328) := Lib.hid (by simp only [maxLen]; omega)
        obtain ⟨U, hU⟩ : ∃ U, U = usedOf l := ⟨_, rfl⟩
        rw [← hU] at HU HQ0 hu hU0
        have eU : wrap64 (U + d) = U + d := wrap_q (by omega)
        clear hr hr0 hn hh hU hg hm
        by_cases hf : L < U + d
        · have HQ : Hid (enterC l L n d y = 10) := Lib.hid (by rw [HQ0.out, if_pos hf])
          have HQL := Lib.hid (HQL0.out _ HQ.out (by decide))
          have t7 : decide (L < U + d) = true := decide_eq_true hf
          clear hf hu hU0 hLr hd
          go_enter Try.func36, Try.ntmps36
          go_wp2_with (first
            | ((with_reducible refine (HN.out _).mono ?_); rintro e w1 ⟨rfl, hb1⟩; have HB := Lib.hid hb1; clear hb1)
            | ((with_reducible refine (HA.out _ (HS.out.below HB.out (Nat.le_refl _))).mono ?_); rintro e w2 ⟨rfl, hb2⟩; have HB := Lib.hid (HB.out.trans (hb2.mono HB.out.size)); clear hb2)
            | ((with_reducible refine (HU.out _ (HS.out.below HB.out (Nat.le_refl _))).mono ?_); rintro e w3 ⟨rfl, hb3⟩; have HB := Lib.hid (HB.out.trans (hb3.mono HB.out.size)); clear hb3)
            | ((with_reducible refine (HLI.out _).mono ?_); rintro e w4 ⟨rfl, hb4⟩; have HB := Lib.hid (HB.out.trans (hb4.mono HB.out.size)); clear hb4)
            | fail)
          go_ret2
          exact refP_same HS.out HB.out HQL.out HQ.out
        · have HQ : Hid (enterC l L n d y = 0) := Lib.hid (by rw [HQ0.out, if_neg hf])
          have t7 : decide (L < U + d) = false := decide_eq_false hf
          obtain ⟨S, hS⟩ : ∃ S : Int, S = if d = 0 then 1 else 0 := ⟨_, rfl⟩
          have HST : Hid (S = if d = 0 then 1 else 0) := Lib.hid hS
          clear hf hu hU0 hLr hd hS
          by_cases h0 : d = 0
          · have t8 : (d == 0) = true := by simp [h0]
            have HS1 : Hid (S = 1) := Lib.hid (by rw [HST.out, if_pos h0])
            clear h0
            go_enter Try.func36, Try.ntmps36
            go_wp2_with (first
              | ((with_reducible refine (HN.out _).mono ?_); rintro e w1 ⟨rfl, hb1⟩; have HB := Lib.hid hb1; clear hb1)
              | ((with_reducible refine (HA.out _ (HS.out.below HB.out (Nat.le_refl _))).mono ?_); rintro e w2 ⟨rfl, hb2⟩; have HB := Lib.hid (HB.out.trans (hb2.mono HB.out.size)); clear hb2)
              | ((with_reducible refine (HU.out _ (HS.out.below HB.out (Nat.le_refl _))).mono ?_); rintro e w3 ⟨rfl, hb3⟩; have HB := Lib.hid (HB.out.trans (hb3.mono HB.out.size)); clear hb3)
              | ((with_reducible refine (HLI.out _).mono ?_); rintro e w4 ⟨rfl, hb4⟩; have HB := Lib.hid (HB.out.trans (hb4.mono HB.out.size)); clear hb4)
              | fail)
            obtain ⟨w5, hw5⟩ : ∃ x, x = w4.alloc (.cells #[.string n, .int .i64 d, .int .i64 y, .int .i64 1] 45) := ⟨_, rfl⟩
            obtain ⟨bx, hbx⟩ : ∃ b, b = w4.heap.size := ⟨_, rfl⟩
            have HX : Hid (w5.heap[bx]? = some (.cells #[.string n, .int .i64 d, .int .i64 y, .int .i64 S] 45 (0, 0))) := Lib.hid (by rw [hw5, hbx, HS1.out]; exact heap_alloc_new _ _)
            have HB5 : Hid (Below w.heap.size w w5) := Lib.hid (hw5 ▸ HB.out.alloc HB.out.size _)
            rw [← hw5, ← hbx]
            clear hw5 hbx
            obtain ⟨v, hv⟩ : ∃ v, v = Value.slice a l.length c := ⟨_, rfl⟩
            rw [← hv] at HSRC ⊢
            clear hv
            refine Any.region_lit (fun
              | 0 => Any.row w5.heap.size 45 4 (0) ([]) []
              | 1 => Any.val (v)
              | 2 => Any.row w5.heap.size 45 4 (l.length) (bxCells l) [0]
              | 3 => Any.val (.agg #[.string n, .int .i64 d, .int .i64 y, .int .i64 S])
              | 4 => Any.made 45 1 #[.string n, .int .i64 d, .int .i64 y, .int .i64 S]
              | 5 => Any.row w5.heap.size 45 4 (l.length + 1) (bxCells l ++ [.string n, .int .i64 d, .int .i64 y, .int .i64 S]) [2]
              | 6 => Any.row w5.heap.size 45 4 (l.length + 1) (bxCells l ++ [.string n, .int .i64 d, .int .i64 y, .int .i64 S]) [5]
              | 7 => Any.val (.int .i64 0)
              | _ => Any.idle) (by kernel_rfl) (by kernel_rfl) (by kernel_rfl) ?_ ?_ ?_
            · intro i _
              match i with
              | 0 => exact Any.lasts_row _ _ _ _ _ _
              | 1 => exact Any.lasts_val _
              | 2 => exact Any.lasts_row _ _ _ _ _ _
              | 3 => exact Any.lasts_val _
              | 4 => exact Any.lasts_made _ _ _
              | 5 => exact Any.lasts_row _ _ _ _ _ _
              | 6 => exact Any.lasts_row _ _ _ _ _ _
              | 7 => exact Any.lasts_val _
              | n + 8 => exact Any.lasts_idle
            · refine ⟨?_, ?_, ?_, ?_, ?_, ?_, ?_, ?_, trivial⟩
              · refine Any.owes_plain rfl fun ρ wo hs' hb hc' => ?_
                go_simp
                exact Any.post_new hb (own_empty (show w5.heap.size ≤ wo.heap.size from hb.size)) (one_below _ _) (by intro b hb'; obtain rfl : wo.heap.size = b := Option.some.inj hb'; exact Nat.le_refl _)
              · refine Any.owes_plain rfl fun ρ wo hs' hb hc' => ?_
                have h0 : ρ (.tmp 0) = v := hs'.old' 0 (by kernel_rfl)
                exact Any.ok_move (Any.post_val hb rfl h0)
              · refine Any.owes_plain rfl fun ρ wo hs' hb hc' => ?_
                have h57 : ρ (.tmp 57) = v := hs'.new' 57 1 (by kernel_rfl)
                have h8 : wo.ownsRow w5.heap.size 45 4 (ρ (.tmp 56)) 0 [] := hs'.new' 56 0 (by kernel_rfl)
                have hsrc : Src wo 4 (ρ (.tmp 57)) l.length (bxCells l) := by rw [h57]; exact HSRC.out wo (HB5.out.trans ((below_undrew hb).mono HB5.out.size))
                refine Any.ok_append_own Try.underlying40 HI.out.1 HI.out.2.1 HI.out.2.2.1 HI.out.2.2.2 rfl (by decide) h8 hsrc (bxCells_one l) (by have := HL.out.1; omega) (by have := HL.out.2; omega) (show w5.heap.size ≤ wo.heap.size from hb.size) fun v' w' h1 h2 h3 => ?_
                rw [List.nil_append, Nat.zero_add] at h1
                exact Any.post_take hb h1 h2 rfl ⟨_, _, _, rfl⟩ rfl rfl (Nat.le_refl _) h3 (fun b hb => (h8.lt b hb).1)
              · refine Any.owes_plain rfl fun ρ wo hs' hb hc' => ?_
                have h12 : ρ (.tmp 12) = .pointer (some ⟨bx, 0, none⟩) := hs'.old' 12 (by kernel_rfl)
                have c0 : wo.cell? ⟨bx, 0, none⟩ = some (.string n) := cell_blk (blk (below_undrew hb) (lt_blk HX.out) HX.out) 0
                have c1 : wo.cell? ⟨bx, 1, none⟩ = some (.int .i64 d) := cell_blk (blk (below_undrew hb) (lt_blk HX.out) HX.out) 1
                have c2 : wo.cell? ⟨bx, 2, none⟩ = some (.int .i64 y) := cell_blk (blk (below_undrew hb) (lt_blk HX.out) HX.out) 2
                have c3 : wo.cell? ⟨bx, 3, none⟩ = some (.int .i64 S) := cell_blk (blk (below_undrew hb) (lt_blk HX.out) HX.out) 3
                go_simp
                exact Any.post_val hb rfl rfl
              · refine Any.owes_plain rfl fun ρ wo hs' hb hc' => ?_
                have h59 : ρ (.tmp 59) = .agg #[.string n, .int .i64 d, .int .i64 y, .int .i64 S] := hs'.new' 59 3 (by kernel_rfl)
                go_simp
                exact Any.post_new hb ⟨_, rfl, heap_alloc_new _ _⟩ (one_below _ _) (by intro b hb'; obtain rfl : wo.heap.size = b := Option.some.inj hb'; exact Nat.le_refl _)
              · refine Any.owes_plain rfl fun ρ wo hs' hb hc' => ?_
                have h8 : wo.ownsRow w5.heap.size 45 4 (ρ (.tmp 58)) (l.length) (bxCells l) := hs'.new' 58 2 (by kernel_rfl)
                obtain ⟨g, hg, hgb⟩ := hs'.new' 60 4 (by kernel_rfl)
                have hsrc : Src wo 4 (ρ (.tmp 60)) 1 [.string n, .int .i64 d, .int .i64 y, .int .i64 S] := by rw [hg]; exact src_block hgb rfl
                refine Any.ok_append_own Try.underlying40 HI.out.1 HI.out.2.1 HI.out.2.2.1 HI.out.2.2.2 rfl (by decide) h8 hsrc (by simp [Value.oneCell']) HL.out.1 HL.out.2 (show w5.heap.size ≤ wo.heap.size from hb.size) fun v' w' h1 h2 h3 => ?_
                exact Any.post_take hb h1 h2 rfl ⟨_, _, _, rfl⟩ rfl rfl (Nat.le_refl _) h3 (fun b hb => (h8.lt b hb).1)
              · refine Any.owes_plain rfl fun ρ wo hs' hb hc' => ?_
                have h8 : wo.ownsRow w5.heap.size 45 4 (ρ (.tmp 61)) (l.length + 1) (bxCells l ++ [.string n, .int .i64 d, .int .i64 y, .int .i64 S]) := hs'.new' 61 5 (by kernel_rfl)
                exact Any.ok_assign (Any.post_pass hb rfl ⟨_, rfl⟩ rfl rfl h8)
              · refine Any.owes_plain rfl fun ρ wo hs' hb hc' => ?_
                exact Any.ok_assign (Any.post_val hb rfl (hc' _))
            · intro vals w6 hb hk ha
              have h6 : w6.ownsRow w5.heap.size 45 4 (vals 6) (l.length + 1) (bxCells l ++ [.string n, .int .i64 d, .int .i64 y, .int .i64 S]) := hk 6 (by kernel_rfl)
              have HSL : Hid (Sl w6 4 (vals 6) ((l ++ [Bx.mk n d y S]).map Bx.row)) := Lib.hid (own_boxes (l := l ++ [Bx.mk n d y S]) (by rw [bxCells_append]; exact h6) (by simp))
              have HOB : Hid (∀ b, (vals 6).ownBlock = some b → w.heap.size ≤ b ∧ b < w6.heap.size) := Lib.hid (fun b hb' => ⟨Nat.le_trans HB5.out.size (h6.lt b hb').1, (h6.lt b hb').2⟩)
              have HB6 := Lib.hid (HB5.out.trans (hb.mono HB5.out.size))
              have e7 := hk 7 (by kernel_rfl)
              clear hk ha hb h6
              simp only [Any.putAll]
              go_frame
              simp only [Nat.zero_add, Nat.reduceAdd]
              generalize vals 6 = u at *
              go_wp2_with fail
              go_ret2
              exact ⟨u, by rw [HQ.out, e7]; rfl, by rw [enterL, if_pos HQ.out, ← HST.out]; exact HSL.out, HB6.out, fun b h => .inr (HOB.out b h)⟩
          · have t8 : (d == 0) = false := by simp [h0]
            have HS1 : Hid (S = 0) := Lib.hid (by rw [HST.out, if_neg h0])
            clear h0
            go_enter Try.func36, Try.ntmps36
            go_wp2_with (first
              | ((with_reducible refine (HN.out _).mono ?_); rintro e w1 ⟨rfl, hb1⟩; have HB := Lib.hid hb1; clear hb1)
              | ((with_reducible refine (HA.out _ (HS.out.below HB.out (Nat.le_refl _))).mono ?_); rintro e w2 ⟨rfl, hb2⟩; have HB := Lib.hid (HB.out.trans (hb2.mono HB.out.size)); clear hb2)
              | ((with_reducible refine (HU.out _ (HS.out.below HB.out (Nat.le_refl _))).mono ?_); rintro e w3 ⟨rfl, hb3⟩; have HB := Lib.hid (HB.out.trans (hb3.mono HB.out.size)); clear hb3)
              | ((with_reducible refine (HLI.out _).mono ?_); rintro e w4 ⟨rfl, hb4⟩; have HB := Lib.hid (HB.out.trans (hb4.mono HB.out.size)); clear hb4)
              | fail)
            obtain ⟨w5, hw5⟩ : ∃ x, x = w4.alloc (.cells #[.string n, .int .i64 d, .int .i64 y, .int .i64 0] 45) := ⟨_, rfl⟩
            obtain ⟨bx, hbx⟩ : ∃ b, b = w4.heap.size := ⟨_, rfl⟩
            have HX : Hid (w5.heap[bx]? = some (.cells #[.string n, .int .i64 d, .int .i64 y, .int .i64 S] 45 (0, 0))) := Lib.hid (by rw [hw5, hbx, HS1.out]; exact heap_alloc_new _ _)
            have HB5 : Hid (Below w.heap.size w w5) := Lib.hid (hw5 ▸ HB.out.alloc HB.out.size _)
            rw [← hw5, ← hbx]
            clear hw5 hbx
            obtain ⟨v, hv⟩ : ∃ v, v = Value.slice a l.length c := ⟨_, rfl⟩
            rw [← hv] at HSRC ⊢
            clear hv
            refine Any.region_lit (fun
              | 0 => Any.row w5.heap.size 45 4 (0) ([]) []
              | 1 => Any.val (v)
              | 2 => Any.row w5.heap.size 45 4 (l.length) (bxCells l) [0]
              | 3 => Any.val (.agg #[.string n, .int .i64 d, .int .i64 y, .int .i64 S])
              | 4 => Any.made 45 1 #[.string n, .int .i64 d, .int .i64 y, .int .i64 S]
              | 5 => Any.row w5.heap.size 45 4 (l.length + 1) (bxCells l ++ [.string n, .int .i64 d, .int .i64 y, .int .i64 S]) [2]
              | 6 => Any.row w5.heap.size 45 4 (l.length + 1) (bxCells l ++ [.string n, .int .i64 d, .int .i64 y, .int .i64 S]) [5]
              | 7 => Any.val (.int .i64 0)
              | _ => Any.idle) (by kernel_rfl) (by kernel_rfl) (by kernel_rfl) ?_ ?_ ?_
            · intro i _
              match i with
              | 0 => exact Any.lasts_row _ _ _ _ _ _
              | 1 => exact Any.lasts_val _
              | 2 => exact Any.lasts_row _ _ _ _ _ _
              | 3 => exact Any.lasts_val _
              | 4 => exact Any.lasts_made _ _ _
              | 5 => exact Any.lasts_row _ _ _ _ _ _
              | 6 => exact Any.lasts_row _ _ _ _ _ _
              | 7 => exact Any.lasts_val _
              | n + 8 => exact Any.lasts_idle
            · refine ⟨?_, ?_, ?_, ?_, ?_, ?_, ?_, ?_, trivial⟩
              · refine Any.owes_plain rfl fun ρ wo hs' hb hc' => ?_
                go_simp
                exact Any.post_new hb (own_empty (show w5.heap.size ≤ wo.heap.size from hb.size)) (one_below _ _) (by intro b hb'; obtain rfl : wo.heap.size = b := Option.some.inj hb'; exact Nat.le_refl _)
              · refine Any.owes_plain rfl fun ρ wo hs' hb hc' => ?_
                have h0 : ρ (.tmp 0) = v := hs'.old' 0 (by kernel_rfl)
                exact Any.ok_move (Any.post_val hb rfl h0)
              · refine Any.owes_plain rfl fun ρ wo hs' hb hc' => ?_
                have h57 : ρ (.tmp 57) = v := hs'.new' 57 1 (by kernel_rfl)
                have h8 : wo.ownsRow w5.heap.size 45 4 (ρ (.tmp 56)) 0 [] := hs'.new' 56 0 (by kernel_rfl)
                have hsrc : Src wo 4 (ρ (.tmp 57)) l.length (bxCells l) := by rw [h57]; exact HSRC.out wo (HB5.out.trans ((below_undrew hb).mono HB5.out.size))
                refine Any.ok_append_own Try.underlying40 HI.out.1 HI.out.2.1 HI.out.2.2.1 HI.out.2.2.2 rfl (by decide) h8 hsrc (bxCells_one l) (by have := HL.out.1; omega) (by have := HL.out.2; omega) (show w5.heap.size ≤ wo.heap.size from hb.size) fun v' w' h1 h2 h3 => ?_
                rw [List.nil_append, Nat.zero_add] at h1
                exact Any.post_take hb h1 h2 rfl ⟨_, _, _, rfl⟩ rfl rfl (Nat.le_refl _) h3 (fun b hb => (h8.lt b hb).1)
              · refine Any.owes_plain rfl fun ρ wo hs' hb hc' => ?_
                have h12 : ρ (.tmp 12) = .pointer (some ⟨bx, 0, none⟩) := hs'.old' 12 (by kernel_rfl)
                have c0 : wo.cell? ⟨bx, 0, none⟩ = some (.string n) := cell_blk (blk (below_undrew hb) (lt_blk HX.out) HX.out) 0
                have c1 : wo.cell? ⟨bx, 1, none⟩ = some (.int .i64 d) := cell_blk (blk (below_undrew hb) (lt_blk HX.out) HX.out) 1
                have c2 : wo.cell? ⟨bx, 2, none⟩ = some (.int .i64 y) := cell_blk (blk (below_undrew hb) (lt_blk HX.out) HX.out) 2
                have c3 : wo.cell? ⟨bx, 3, none⟩ = some (.int .i64 S) := cell_blk (blk (below_undrew hb) (lt_blk HX.out) HX.out) 3
                go_simp
                exact Any.post_val hb rfl rfl
              · refine Any.owes_plain rfl fun ρ wo hs' hb hc' => ?_
                have h59 : ρ (.tmp 59) = .agg #[.string n, .int .i64 d, .int .i64 y, .int .i64 S] := hs'.new' 59 3 (by kernel_rfl)
                go_simp
                exact Any.post_new hb ⟨_, rfl, heap_alloc_new _ _⟩ (one_below _ _) (by intro b hb'; obtain rfl : wo.heap.size = b := Option.some.inj hb'; exact Nat.le_refl _)
              · refine Any.owes_plain rfl fun ρ wo hs' hb hc' => ?_
                have h8 : wo.ownsRow w5.heap.size 45 4 (ρ (.tmp 58)) (l.length) (bxCells l) := hs'.new' 58 2 (by kernel_rfl)
                obtain ⟨g, hg, hgb⟩ := hs'.new' 60 4 (by kernel_rfl)
                have hsrc : Src wo 4 (ρ (.tmp 60)) 1 [.string n, .int .i64 d, .int .i64 y, .int .i64 S] := by rw [hg]; exact src_block hgb rfl
                refine Any.ok_append_own Try.underlying40 HI.out.1 HI.out.2.1 HI.out.2.2.1 HI.out.2.2.2 rfl (by decide) h8 hsrc (by simp [Value.oneCell']) HL.out.1 HL.out.2 (show w5.heap.size ≤ wo.heap.size from hb.size) fun v' w' h1 h2 h3 => ?_
                exact Any.post_take hb h1 h2 rfl ⟨_, _, _, rfl⟩ rfl rfl (Nat.le_refl _) h3 (fun b hb => (h8.lt b hb).1)
              · refine Any.owes_plain rfl fun ρ wo hs' hb hc' => ?_
                have h8 : wo.ownsRow w5.heap.size 45 4 (ρ (.tmp 61)) (l.length + 1) (bxCells l ++ [.string n, .int .i64 d, .int .i64 y, .int .i64 S]) := hs'.new' 61 5 (by kernel_rfl)
                exact Any.ok_assign (Any.post_pass hb rfl ⟨_, rfl⟩ rfl rfl h8)
              · refine Any.owes_plain rfl fun ρ wo hs' hb hc' => ?_
                exact Any.ok_assign (Any.post_val hb rfl (hc' _))
            · intro vals w6 hb hk ha
              have h6 : w6.ownsRow w5.heap.size 45 4 (vals 6) (l.length + 1) (bxCells l ++ [.string n, .int .i64 d, .int .i64 y, .int .i64 S]) := hk 6 (by kernel_rfl)
              have HSL : Hid (Sl w6 4 (vals 6) ((l ++ [Bx.mk n d y S]).map Bx.row)) := Lib.hid (own_boxes (l := l ++ [Bx.mk n d y S]) (by rw [bxCells_append]; exact h6) (by simp))
              have HOB : Hid (∀ b, (vals 6).ownBlock = some b → w.heap.size ≤ b ∧ b < w6.heap.size) := Lib.hid (fun b hb' => ⟨Nat.le_trans HB5.out.size (h6.lt b hb').1, (h6.lt b hb').2⟩)
              have HB6 := Lib.hid (HB5.out.trans (hb.mono HB5.out.size))
              have e7 := hk 7 (by kernel_rfl)
              clear hk ha hb h6
              simp only [Any.putAll]
              go_frame
              simp only [Nat.zero_add, Nat.reduceAdd]
              generalize vals 6 = u at *
              go_wp2_with fail
              go_ret2
              exact ⟨u, by rw [HQ.out, e7]; rfl, by rw [enterL, if_pos HQ.out, ← HST.out]; exact HSL.out, HB6.out, fun b h => .inr (HOB.out b h)⟩
      · have t5 : decide (0 ≤ m) = true := decide_eq_true (by rw [hm]; exact bAt_yes hh)
        have HQ : Hid (enterC l L n d y = 5) := Lib.hid (by rw [enterC, if_neg (by rw [hn]; decide), if_neg hr0, if_pos hh])
        have HQL := Lib.hid (HQL0.out _ HQ.out (by decide))
        clear hr hr0 hn hg hu hU0 hLr hm hh hd
        go_enter Try.func36, Try.ntmps36
        go_wp2_with (first
          | ((with_reducible refine (HN.out _).mono ?_); rintro e w1 ⟨rfl, hb1⟩; have HB := Lib.hid hb1; clear hb1)
          | ((with_reducible refine (HA.out _ (HS.out.below HB.out (Nat.le_refl _))).mono ?_); rintro e w2 ⟨rfl, hb2⟩; have HB := Lib.hid (HB.out.trans (hb2.mono HB.out.size)); clear hb2)
          | fail)
        go_ret2
        exact refP_same HS.out HB.out HQL.out HQ.out
end Go.Proofs.Ytehlhfcaajhhaaa.Sc
