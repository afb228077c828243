/- The statement UndertakeWay: a credit that may live is advised, presented to, honoured, paid and reimbursed, by whom it is to be; each step is OK, and nobody owes anything then; no condition. -/
import Derived.Test.YtjabjfkfoenmlaaWayB34
import Derived.Test.YtjabjfkfoenmlaaAnyO
import Derived.StillTailTactics
import Derived.Deep.CutRange
namespace Go.Proofs.Ytjabjfkfoenmlaa.Sc
open Go Go.RowKit
theorem at_size {w : World} {n m : Nat} {o : Obj} (h : w.heap[n]? = some o) (e : n = m) : w.heap[m]? = some o := e ▸ h
end Go.Proofs.Ytjabjfkfoenmlaa.Sc
namespace Go.Proofs.Ytjabjfkfoenmlaa.undertakeWay
open Go.ChangeShapes Go.WideShapes Go.ChangeAt Go.RowKit Go Sc
set_option maxRecDepth 100000

set_option maxHeartbeats 16000000 in
theorem walk (w : World) (t : Tm) (_ht : t.fit) (am : Int) (_ : (Lit.int .i64 am).wf = true) (d0 d1 d2 d3 d4 d5 : Int) (refused : Bool) :
    Calls Try.prog 5 #[.agg t.cells, .int .i64 am, .agg #[.int .i64 d0, .int .i64 d1, .int .i64 d2, .int .i64 d3, .int .i64 d4, .int .i64 d5], .bool refused] w (RetB w true) := by
  obtain ⟨i0, hi, hz, hsz, hby⟩ := info_parts infoEv
  have HI := Lib.hid (And.intro hi (And.intro hz (And.intro hsz hby)))
  clear hi hz hsz hby
  obtain ⟨w0, hw0⟩ : ∃ x, x = (w.alloc (.cells t.cells 23)).alloc (.cells #[.int .i64 d0, .int .i64 d1, .int .i64 d2, .int .i64 d3, .int .i64 d4, .int .i64 d5] 48) := ⟨_, rfl⟩
  have HX : Hid (w0.heap[w.heap.size]? = some (.cells t.cells 23 (0, 0))) := Lib.hid (hw0 ▸ blk (one_below _ _) (by simp) (heap_alloc_new _ _))
  have HD : Hid (w0.heap[w.heap.size + 1]? = some (.cells #[.int .i64 d0, .int .i64 d1, .int .i64 d2, .int .i64 d3, .int .i64 d4, .int .i64 d5] 48 (0, 0))) := Lib.hid (hw0 ▸ (by have := heap_alloc_new (w.alloc (.cells t.cells 23)) (.cells #[.int .i64 d0, .int .i64 d1, .int .i64 d2, .int .i64 d3, .int .i64 d4, .int .i64 d5] 48); simpa using this))
  have HB0 : Hid (Below w.heap.size w w0) := Lib.hid (hw0 ▸ bl_alloc (one_below _ _) _)
  have LO := Lib.hid (fun W => long_any t W)
  have CR := Lib.hid (fun W => credit_any t W)
  have LE := Lib.hid (fun W => refLeast_some t.cr W)
  have MO := Lib.hid (fun W => refMost_some t.cr W)
  unfold SomeN at LE MO
  go_enter Try.func5, Try.ntmps5
  go_wp2_with fail
  rw [← hw0]
  clear hw0
  go_wp2_with (first
    | ((with_reducible refine (awake_any _).mono ?_); rintro e w1 ⟨rfl, hb1⟩; have HX1 := Lib.hid (blk hb1 (lt_blk HX.out) HX.out); have HD1 := Lib.hid (blk hb1 (lt_blk HD.out) HD.out); have HB1 := Lib.hid hb1; clear hb1)
    | fail)
  refine Any.region_lit (fun
    | 0 => Any.val (.agg t.cells)
    | 1 => Any.val (.agg t.cr.cells)
    | 2 => numS (fun n => t.cr.bnd = true → n = t.cr.least)
    | 3 => Any.val (.agg t.cells)
    | 4 => Any.val (.agg t.cr.cells)
    | 5 => numS (fun n => t.cr.bnd = true → n = t.cr.most)
    | 6 => numS (fun n => t.cr.bnd = true → n = t.cr.least)
    | 7 => numS (fun n => t.cr.bnd = true → n = t.cr.most)
    | _ => Any.idle) (by kernel_rfl) (by kernel_rfl) (by kernel_rfl) ?_ ?_ ?_
  · intro i _
    match i with
    | 0 => exact Any.lasts_val _
    | 1 => exact Any.lasts_val _
    | 2 => exact lasts_num _
    | 3 => exact Any.lasts_val _
    | 4 => exact Any.lasts_val _
    | 5 => exact lasts_num _
    | 6 => exact lasts_num _
    | 7 => exact lasts_num _
    | n + 8 => exact Any.lasts_idle
  · refine ⟨?_, ?_, ?_, ?_, ?_, ?_, ?_, ?_, trivial⟩
    · refine Any.owes_plain rfl fun ρ wo hs' hb hc' => ?_
      have h4 : ρ (.tmp 4) = .pointer (some ⟨w.heap.size, 0, none⟩) := hs'.old' 4 (by kernel_rfl)
      exact ok_load_tm h4 (blk (below_undrew hb) (lt_blk HX1.out) HX1.out) (Any.post_val hb rfl rfl)
    · refine Any.owes_plain rfl fun ρ wo hs' hb hc' => ?_
      have h27 : ρ (.tmp 27) = .agg t.cells := hs'.new' 27 0 (by kernel_rfl)
      have hf := hs'.func 14
      go_simp
      exact (CR.out wo).mono fun e w' ⟨he, hb'⟩ => ⟨_, he, Any.post_vals hb rfl rfl hb'⟩
    · refine Any.owes_plain rfl fun ρ wo hs' hb hc' => ?_
      have h28 : ρ (.tmp 28) = .agg t.cr.cells := hs'.new' 28 1 (by kernel_rfl)
      have hf := hs'.func 21
      go_simp
      exact (LE.out wo).mono fun e w' ⟨n, he, hn, hb'⟩ => ⟨_, he, Any.post_new hb ⟨n, rfl, hn⟩ hb' (fun b h => by cases h)⟩
    · refine Any.owes_plain rfl fun ρ wo hs' hb hc' => ?_
      have h4 : ρ (.tmp 4) = .pointer (some ⟨w.heap.size, 0, none⟩) := hs'.old' 4 (by kernel_rfl)
      exact ok_load_tm h4 (blk (below_undrew hb) (lt_blk HX1.out) HX1.out) (Any.post_val hb rfl rfl)
    · refine Any.owes_plain rfl fun ρ wo hs' hb hc' => ?_
      have h30 : ρ (.tmp 30) = .agg t.cells := hs'.new' 30 3 (by kernel_rfl)
      have hf := hs'.func 14
      go_simp
      exact (CR.out wo).mono fun e w' ⟨he, hb'⟩ => ⟨_, he, Any.post_vals hb rfl rfl hb'⟩
    · refine Any.owes_plain rfl fun ρ wo hs' hb hc' => ?_
      have h31 : ρ (.tmp 31) = .agg t.cr.cells := hs'.new' 31 4 (by kernel_rfl)
      have hf := hs'.func 18
      go_simp
      exact (MO.out wo).mono fun e w' ⟨n, he, hn, hb'⟩ => ⟨_, he, Any.post_new hb ⟨n, rfl, hn⟩ hb' (fun b h => by cases h)⟩
    · refine Any.owes_plain rfl fun ρ wo hs' hb hc' => ?_
      obtain ⟨n, hn, hp⟩ := hs'.new' 29 2 (by kernel_rfl)
      exact Any.ok_assign (Any.post_new hb ⟨n, hn, hp⟩ (Below.refl _ _) (fun b h => by cases h))
    · refine Any.owes_plain rfl fun ρ wo hs' hb hc' => ?_
      obtain ⟨n, hn, hp⟩ := hs'.new' 32 5 (by kernel_rfl)
      exact Any.ok_assign (Any.post_new hb ⟨n, hn, hp⟩ (Below.refl _ _) (fun b h => by cases h))
  · intro vals w2 hb hk ha
    obtain ⟨nl, hl6, hle⟩ := hk 6 (by kernel_rfl)
    obtain ⟨nm, hm7, hmo⟩ := hk 7 (by kernel_rfl)
    obtain ⟨nl', hl2, -⟩ := hk 2 (by kernel_rfl)
    obtain ⟨nm', hm5, -⟩ := hk 5 (by kernel_rfl)
    have HX1 := Lib.hid (blk hb (lt_blk HX1.out) HX1.out)
    have HD1 := Lib.hid (blk hb (lt_blk HD1.out) HD1.out)
    have HB1 := Lib.hid (below_then HB1.out hb)
    have HLE := Lib.hid hle
    have HMO := Lib.hid hmo
    clear hk ha hb hle hmo
    simp only [Any.putAll]
    go_frame
    simp only [Nat.zero_add, Nat.reduceAdd]
    rw [hl6, hm7, hl2, hm5]
    clear hl6 hm7
    have NWX := Lib.hid (fun (h : t.cr.lives = true) => new_yes t.cr h)
    clear LE MO hl2 hm5
    obtain ⟨L, hL⟩ : ∃ b, b = t.long := ⟨_, rfl⟩
    rw [← hL] at LO
    obtain ⟨lv, hlv⟩ : ∃ b, b = t.cr.lives := ⟨_, rfl⟩
    have MA := Lib.hid (fun (h : L = false) W => refMay34_any t W (hL.symm.trans h))
    rw [← hlv] at MA NWX
    have HLV := Lib.hid hlv
    obtain ⟨p1, h1⟩ : ∃ b, b = (L || !lv) := ⟨_, rfl⟩
    obtain ⟨p2, h2⟩ : ∃ b, b = (p1 || decide (am < 1)) := ⟨_, rfl⟩
    obtain ⟨p3, h3⟩ : ∃ b, b = (p2 || decide (nm < am)) := ⟨_, rfl⟩
    obtain ⟨p4, h4⟩ : ∃ b, b = (p3 || decide (1099511627776 < am)) := ⟨_, rfl⟩
    obtain ⟨pt, hpt⟩ : ∃ b, b = !t.part := ⟨_, rfl⟩
    obtain ⟨q, hq⟩ : ∃ b, b = (pt && decide (am < nl)) := ⟨_, rfl⟩
    obtain ⟨p5, h5⟩ : ∃ b, b = (p4 || q) := ⟨_, rfl⟩
    obtain ⟨p6, h6⟩ : ∃ b, b = (p5 || decide (d0 < 0)) := ⟨_, rfl⟩
    obtain ⟨p7, h7⟩ : ∃ b, b = (p6 || decide (t.expiry < d2)) := ⟨_, rfl⟩
    obtain ⟨p8, h8⟩ : ∃ b, b = (p7 || decide (1048576 < d5)) := ⟨_, rfl⟩
    have HP1 := Lib.hid h1
    have HP2 := Lib.hid h2
    have HP3 := Lib.hid h3
    have HP4 := Lib.hid h4
    have HPT := Lib.hid hpt
    have HQ := Lib.hid hq
    have HP5 := Lib.hid h5
    have HP6 := Lib.hid h6
    have HP7 := Lib.hid h7
    have HP8 := Lib.hid h8
    clear h1 h2 h3 h4 hpt hq h5 h6 h7 h8 hL hlv
    go_upto_region 4 with fail
    refine Any.region_ord (fun
      | 0 => Any.val (.agg t.cells)
      | 1 => Any.val (.bool L)
      | 2 => Any.val (.bool L)
      | 3 => Any.val (if L = false then .agg t.cells else undef)
      | 4 => Any.val (if L = false then .agg t.cr.cells else undef)
      | 5 => Any.val (if L = false then .bool lv else undef)
      | 6 => Any.val (if L = false then .bool (!lv) else undef)
      | 7 => Any.val (.bool p1)
      | 8 => Any.val (.bool p1)
      | 9 => Any.val (if p1 = false then .int .i64 am else undef)
      | 10 => Any.val (if p1 = false then .bool (decide (am < 1)) else undef)
      | 11 => Any.val (.bool p2)
      | 12 => Any.val (.bool p2)
      | 13 => Any.val (if p2 = false then .int .i64 am else undef)
      | 14 => Any.val (if p2 = false then .int .i64 nm else undef)
      | 15 => Any.val (if p2 = false then .bool (decide (nm < am)) else undef)
      | 16 => Any.val (.bool p3)
      | 17 => Any.val (.bool p3)
      | 18 => Any.val (if p3 = false then .int .i64 am else undef)
      | 19 => Any.val (if p3 = false then .bool (decide (1099511627776 < am)) else undef)
      | 20 => Any.val (.bool p4)
      | 21 => Any.val (.bool p4)
      | 22 => Any.val (if p4 = false then .pointer (some ⟨w.heap.size, 8, none⟩) else undef)
      | 23 => Any.val (if p4 = false then .bool t.part else undef)
      | 24 => Any.val (if p4 = false then .bool pt else undef)
      | 25 => Any.val (if p4 = false then .bool pt else undef)
      | 26 => Any.val (if (p4 = false) ∧ pt = true then .int .i64 am else undef)
      | 27 => Any.val (if (p4 = false) ∧ pt = true then .int .i64 nl else undef)
      | 28 => Any.val (if (p4 = false) ∧ pt = true then .bool (decide (am < nl)) else undef)
      | 29 => Any.val (if p4 = false then .bool q else undef)
      | 30 => Any.val (.bool p5)
      | 31 => Any.val (.bool p5)
      | 32 => Any.val (if p5 = false then .pointer (some ⟨w.heap.size + 1, 0, none⟩) else undef)
      | 33 => Any.val (if p5 = false then .int .i64 d0 else undef)
      | 34 => Any.val (if p5 = false then .bool (decide (d0 < 0)) else undef)
      | 35 => Any.val (.bool p6)
      | 36 => Any.val (.bool p6)
      | 37 => Any.val (if p6 = false then .pointer (some ⟨w.heap.size + 1, 2, none⟩) else undef)
      | 38 => Any.val (if p6 = false then .int .i64 d2 else undef)
      | 39 => Any.val (if p6 = false then .pointer (some ⟨w.heap.size, 7, none⟩) else undef)
      | 40 => Any.val (if p6 = false then .int .i64 t.expiry else undef)
      | 41 => Any.val (if p6 = false then .bool (decide (t.expiry < d2)) else undef)
      | 42 => Any.val (.bool p7)
      | 43 => Any.val (.bool p7)
      | 44 => Any.val (if p7 = false then .pointer (some ⟨w.heap.size + 1, 5, none⟩) else undef)
      | 45 => Any.val (if p7 = false then .int .i64 d5 else undef)
      | 46 => Any.val (if p7 = false then .bool (decide (1048576 < d5)) else undef)
      | 47 => Any.val (.bool p8)
      | _ => Any.idle) (by kernel_rfl) (by kernel_rfl) ?_ ?_ ?_
    · intro i _
      match i with
      | 0 => exact Any.lasts_val _
      | 1 => exact Any.lasts_val _
      | 2 => exact Any.lasts_val _
      | 3 => exact Any.lasts_val _
      | 4 => exact Any.lasts_val _
      | 5 => exact Any.lasts_val _
      | 6 => exact Any.lasts_val _
      | 7 => exact Any.lasts_val _
      | 8 => exact Any.lasts_val _
      | 9 => exact Any.lasts_val _
      | 10 => exact Any.lasts_val _
      | 11 => exact Any.lasts_val _
      | 12 => exact Any.lasts_val _
      | 13 => exact Any.lasts_val _
      | 14 => exact Any.lasts_val _
      | 15 => exact Any.lasts_val _
      | 16 => exact Any.lasts_val _
      | 17 => exact Any.lasts_val _
      | 18 => exact Any.lasts_val _
      | 19 => exact Any.lasts_val _
      | 20 => exact Any.lasts_val _
      | 21 => exact Any.lasts_val _
      | 22 => exact Any.lasts_val _
      | 23 => exact Any.lasts_val _
      | 24 => exact Any.lasts_val _
      | 25 => exact Any.lasts_val _
      | 26 => exact Any.lasts_val _
      | 27 => exact Any.lasts_val _
      | 28 => exact Any.lasts_val _
      | 29 => exact Any.lasts_val _
      | 30 => exact Any.lasts_val _
      | 31 => exact Any.lasts_val _
      | 32 => exact Any.lasts_val _
      | 33 => exact Any.lasts_val _
      | 34 => exact Any.lasts_val _
      | 35 => exact Any.lasts_val _
      | 36 => exact Any.lasts_val _
      | 37 => exact Any.lasts_val _
      | 38 => exact Any.lasts_val _
      | 39 => exact Any.lasts_val _
      | 40 => exact Any.lasts_val _
      | 41 => exact Any.lasts_val _
      | 42 => exact Any.lasts_val _
      | 43 => exact Any.lasts_val _
      | 44 => exact Any.lasts_val _
      | 45 => exact Any.lasts_val _
      | 46 => exact Any.lasts_val _
      | 47 => exact Any.lasts_val _
      | n + 48 => exact Any.lasts_idle
    · refine ⟨?_, ?_, ?_, ?_, ?_, ?_, ?_, ?_, ?_, ?_, ?_, ?_, ?_, ?_, ?_, ?_, ?_, ?_, ?_, ?_, ?_, ?_, ?_, ?_, ?_, ?_, ?_, ?_, ?_, ?_, ?_, ?_, ?_, ?_, ?_, ?_, ?_, ?_, ?_, ?_, ?_, ?_, ?_, ?_, ?_, ?_, ?_, ?_, trivial⟩
      · refine Any.owes_plain rfl fun ρ wo hs' hb hc' => ?_
        have h4 : ρ (.tmp 4) = .pointer (some ⟨w.heap.size, 0, none⟩) := hs'.old' 4 (by kernel_rfl)
        exact ok_load_tm h4 (Sc.blk hb (lt_blk HX1.out) HX1.out) (Any.post_val hb rfl rfl)
      · refine Any.owes_plain rfl fun ρ wo hs' hb hc' => ?_
        have h33 : ρ (.tmp 33) = .agg t.cells := hs'.new' 33 0 (by kernel_rfl)
        have hf := hs'.func 11
        go_simp
        exact (LO.out wo).mono fun e w' ⟨he, hb'⟩ => ⟨_, he, Any.post_vals hb rfl rfl hb'⟩
      · refine Any.owes_plain rfl fun ρ wo hs' hb hc' => ?_
        have h34 : ρ (.tmp 34) = .bool L := hs'.new' 34 1 (by kernel_rfl)
        exact Any.ok_move (Any.post_val hb rfl h34)
      · refine Any.owes_guard rfl rfl (by kernel_rfl) rfl rfl fun hp ρ wo hs' hb hc' => ?_
        have h4 : ρ (.tmp 4) = .pointer (some ⟨w.heap.size, 0, none⟩) := hs'.old' 4 (by kernel_rfl)
        exact ok_load_tm h4 (Sc.blk hb (lt_blk HX1.out) HX1.out) (Any.is_mk rfl)
      · refine Any.owes_guard rfl rfl (by kernel_rfl) rfl rfl fun hp ρ wo hs' hb hc' => ?_
        have h36 : ρ (.tmp 36) = if L = false then .agg t.cells else undef := hs'.new' 36 3 (by kernel_rfl)
        rw [if_pos hp] at h36
        have hf := hs'.func 14
        go_simp
        exact (CR.out wo).mono fun e w' ⟨he, hb'⟩ => ⟨_, he, Any.is_below rfl hb'⟩
      · refine Any.owes_guard rfl rfl (by kernel_rfl) rfl rfl fun hp ρ wo hs' hb hc' => ?_
        have h37 : ρ (.tmp 37) = if L = false then .agg t.cr.cells else undef := hs'.new' 37 4 (by kernel_rfl)
        rw [if_pos hp] at h37
        have hf := hs'.func 13
        go_simp
        exact (MA.out hp wo).mono fun e w' ⟨he, hb'⟩ => ⟨_, he, Any.is_below rfl hb'⟩
      · refine Any.owes_guard rfl rfl (by kernel_rfl) rfl rfl fun hp ρ wo hs' hb hc' => ?_
        have h38 : ρ (.tmp 38) = if L = false then .bool lv else undef := hs'.new' 38 5 (by kernel_rfl)
        rw [if_pos hp] at h38
        go_simp
        exact Any.is_mk rfl
      · refine Any.owes_plain rfl fun ρ wo hs' hb hc' => ?_
        have h35 : ρ (.tmp 35) = .bool L := hs'.new' 35 2 (by kernel_rfl)
        have h39 : ρ (.tmp 39) = if L = false then .bool (!lv) else undef := hs'.new' 39 6 (by kernel_rfl)
        exact Any.ok_pick (b := L) h35 (Any.post_val hb rfl (by rw [hc' _, h39, HP1.out]; cases L <;> rfl))
      · refine Any.owes_plain rfl fun ρ wo hs' hb hc' => ?_
        have h40 : ρ (.tmp 40) = .bool p1 := hs'.new' 40 7 (by kernel_rfl)
        exact Any.ok_move (Any.post_val hb rfl h40)
      · refine Any.owes_guard rfl rfl (by kernel_rfl) rfl rfl fun hp ρ wo hs' hb hc' => ?_
        have h1 : ρ (.tmp 1) = .int .i64 am := hs'.old' 1 (by kernel_rfl)
        exact Any.ok_move (Any.is_mk h1)
      · refine Any.owes_guard rfl rfl (by kernel_rfl) rfl rfl fun hp ρ wo hs' hb hc' => ?_
        have h42 : ρ (.tmp 42) = if p1 = false then .int .i64 am else undef := hs'.new' 42 9 (by kernel_rfl)
        rw [if_pos hp] at h42
        go_simp
        exact Any.is_mk rfl
      · refine Any.owes_plain rfl fun ρ wo hs' hb hc' => ?_
        have h41 : ρ (.tmp 41) = .bool p1 := hs'.new' 41 8 (by kernel_rfl)
        have h43 : ρ (.tmp 43) = if p1 = false then .bool (decide (am < 1)) else undef := hs'.new' 43 10 (by kernel_rfl)
        exact Any.ok_pick (b := p1) h41 (Any.post_val hb rfl (by rw [hc' _, h43, HP2.out]; cases p1 <;> rfl))
      · refine Any.owes_plain rfl fun ρ wo hs' hb hc' => ?_
        have h44 : ρ (.tmp 44) = .bool p2 := hs'.new' 44 11 (by kernel_rfl)
        exact Any.ok_move (Any.post_val hb rfl h44)
      · refine Any.owes_guard rfl rfl (by kernel_rfl) rfl rfl fun hp ρ wo hs' hb hc' => ?_
        have h1 : ρ (.tmp 1) = .int .i64 am := hs'.old' 1 (by kernel_rfl)
        exact Any.ok_move (Any.is_mk h1)
      · refine Any.owes_guard rfl rfl (by kernel_rfl) rfl rfl fun hp ρ wo hs' hb hc' => ?_
        have h10 : ρ (.tmp 10) = .int .i64 nm := hs'.old' 10 (by kernel_rfl)
        exact Any.ok_move (Any.is_mk h10)
      · refine Any.owes_guard rfl rfl (by kernel_rfl) rfl rfl fun hp ρ wo hs' hb hc' => ?_
        have h46 : ρ (.tmp 46) = if p2 = false then .int .i64 am else undef := hs'.new' 46 13 (by kernel_rfl)
        rw [if_pos hp] at h46
        have h47 : ρ (.tmp 47) = if p2 = false then .int .i64 nm else undef := hs'.new' 47 14 (by kernel_rfl)
        rw [if_pos hp] at h47
        go_simp
        exact Any.is_mk rfl
      · refine Any.owes_plain rfl fun ρ wo hs' hb hc' => ?_
        have h45 : ρ (.tmp 45) = .bool p2 := hs'.new' 45 12 (by kernel_rfl)
        have h48 : ρ (.tmp 48) = if p2 = false then .bool (decide (nm < am)) else undef := hs'.new' 48 15 (by kernel_rfl)
        exact Any.ok_pick (b := p2) h45 (Any.post_val hb rfl (by rw [hc' _, h48, HP3.out]; cases p2 <;> rfl))
      · refine Any.owes_plain rfl fun ρ wo hs' hb hc' => ?_
        have h49 : ρ (.tmp 49) = .bool p3 := hs'.new' 49 16 (by kernel_rfl)
        exact Any.ok_move (Any.post_val hb rfl h49)
      · refine Any.owes_guard rfl rfl (by kernel_rfl) rfl rfl fun hp ρ wo hs' hb hc' => ?_
        have h1 : ρ (.tmp 1) = .int .i64 am := hs'.old' 1 (by kernel_rfl)
        exact Any.ok_move (Any.is_mk h1)
      · refine Any.owes_guard rfl rfl (by kernel_rfl) rfl rfl fun hp ρ wo hs' hb hc' => ?_
        have h51 : ρ (.tmp 51) = if p3 = false then .int .i64 am else undef := hs'.new' 51 18 (by kernel_rfl)
        rw [if_pos hp] at h51
        go_simp
        exact Any.is_mk rfl
      · refine Any.owes_plain rfl fun ρ wo hs' hb hc' => ?_
        have h50 : ρ (.tmp 50) = .bool p3 := hs'.new' 50 17 (by kernel_rfl)
        have h52 : ρ (.tmp 52) = if p3 = false then .bool (decide (1099511627776 < am)) else undef := hs'.new' 52 19 (by kernel_rfl)
        exact Any.ok_pick (b := p3) h50 (Any.post_val hb rfl (by rw [hc' _, h52, HP4.out]; cases p3 <;> rfl))
      · refine Any.owes_plain rfl fun ρ wo hs' hb hc' => ?_
        have h53 : ρ (.tmp 53) = .bool p4 := hs'.new' 53 20 (by kernel_rfl)
        exact Any.ok_move (Any.post_val hb rfl h53)
      · refine Any.owes_guard rfl rfl (by kernel_rfl) rfl rfl fun hp ρ wo hs' hb hc' => ?_
        have h4 : ρ (.tmp 4) = .pointer (some ⟨w.heap.size, 0, none⟩) := hs'.old' 4 (by kernel_rfl)
        go_simp
        exact Any.is_mk rfl
      · refine Any.owes_guard rfl rfl (by kernel_rfl) rfl rfl fun hp ρ wo hs' hb hc' => ?_
        have h55 : ρ (.tmp 55) = if p4 = false then .pointer (some ⟨w.heap.size, 8, none⟩) else undef := hs'.new' 55 22 (by kernel_rfl)
        rw [if_pos hp] at h55
        obtain ⟨x8, x7⟩ := tm_more (Sc.blk hb (lt_blk HX1.out) HX1.out)
        go_simp
        exact Any.is_mk rfl
      · refine Any.owes_guard rfl rfl (by kernel_rfl) rfl rfl fun hp ρ wo hs' hb hc' => ?_
        have h56 : ρ (.tmp 56) = if p4 = false then .bool t.part else undef := hs'.new' 56 23 (by kernel_rfl)
        rw [if_pos hp] at h56
        go_simp
        exact Any.is_mk (by rw [HPT.out])
      · refine Any.owes_guard rfl rfl (by kernel_rfl) rfl rfl fun hp ρ wo hs' hb hc' => ?_
        have h57 : ρ (.tmp 57) = if p4 = false then .bool pt else undef := hs'.new' 57 24 (by kernel_rfl)
        rw [if_pos hp] at h57
        exact Any.ok_move (Any.is_mk h57)
      · refine Any.owes_guardc rfl rfl (by kernel_rfl) rfl rfl fun hp ρ wo hs' hb hc' => ?_
        have h1 : ρ (.tmp 1) = .int .i64 am := hs'.old' 1 (by kernel_rfl)
        exact Any.ok_move (Any.is_mk h1)
      · refine Any.owes_guardc rfl rfl (by kernel_rfl) rfl rfl fun hp ρ wo hs' hb hc' => ?_
        have h9 : ρ (.tmp 9) = .int .i64 nl := hs'.old' 9 (by kernel_rfl)
        exact Any.ok_move (Any.is_mk h9)
      · refine Any.owes_guardc rfl rfl (by kernel_rfl) rfl rfl fun hp ρ wo hs' hb hc' => ?_
        have h59 : ρ (.tmp 59) = if (p4 = false) ∧ pt = true then .int .i64 am else undef := hs'.new' 59 26 (by kernel_rfl)
        rw [if_pos hp] at h59
        have h60 : ρ (.tmp 60) = if (p4 = false) ∧ pt = true then .int .i64 nl else undef := hs'.new' 60 27 (by kernel_rfl)
        rw [if_pos hp] at h60
        go_simp
        exact Any.is_mk rfl
      · refine Any.owes_guard rfl rfl (by kernel_rfl) rfl rfl fun hp ρ wo hs' hb hc' => ?_
        have h58 : ρ (.tmp 58) = if p4 = false then .bool pt else undef := hs'.new' 58 25 (by kernel_rfl)
        rw [if_pos hp] at h58
        have h61 : ρ (.tmp 61) = if (p4 = false) ∧ pt = true then .bool (decide (am < nl)) else undef := hs'.new' 61 28 (by kernel_rfl)
        exact Any.ok_pick (b := pt) h58 (Any.is_mk (by rw [h61, hc' _, HQ.out]; cases pt <;> simp [hp]))
      · refine Any.owes_plain rfl fun ρ wo hs' hb hc' => ?_
        have h54 : ρ (.tmp 54) = .bool p4 := hs'.new' 54 21 (by kernel_rfl)
        have h62 : ρ (.tmp 62) = if p4 = false then .bool q else undef := hs'.new' 62 29 (by kernel_rfl)
        exact Any.ok_pick (b := p4) h54 (Any.post_val hb rfl (by rw [hc' _, h62, HP5.out]; cases p4 <;> rfl))
      · refine Any.owes_plain rfl fun ρ wo hs' hb hc' => ?_
        have h63 : ρ (.tmp 63) = .bool p5 := hs'.new' 63 30 (by kernel_rfl)
        exact Any.ok_move (Any.post_val hb rfl h63)
      · refine Any.owes_guard rfl rfl (by kernel_rfl) rfl rfl fun hp ρ wo hs' hb hc' => ?_
        have h6 : ρ (.tmp 6) = .pointer (some ⟨w.heap.size + 1, 0, none⟩) := hs'.old' 6 (by kernel_rfl)
        go_simp
        exact Any.is_mk rfl
      · refine Any.owes_guard rfl rfl (by kernel_rfl) rfl rfl fun hp ρ wo hs' hb hc' => ?_
        have h65 : ρ (.tmp 65) = if p5 = false then .pointer (some ⟨w.heap.size + 1, 0, none⟩) else undef := hs'.new' 65 32 (by kernel_rfl)
        rw [if_pos hp] at h65
        obtain ⟨y0, y1, y2, y3, y4, y5⟩ := day_cells (Sc.blk hb (lt_blk HD1.out) HD1.out)
        go_simp
        exact Any.is_mk rfl
      · refine Any.owes_guard rfl rfl (by kernel_rfl) rfl rfl fun hp ρ wo hs' hb hc' => ?_
        have h66 : ρ (.tmp 66) = if p5 = false then .int .i64 d0 else undef := hs'.new' 66 33 (by kernel_rfl)
        rw [if_pos hp] at h66
        go_simp
        exact Any.is_mk rfl
      · refine Any.owes_plain rfl fun ρ wo hs' hb hc' => ?_
        have h64 : ρ (.tmp 64) = .bool p5 := hs'.new' 64 31 (by kernel_rfl)
        have h67 : ρ (.tmp 67) = if p5 = false then .bool (decide (d0 < 0)) else undef := hs'.new' 67 34 (by kernel_rfl)
        exact Any.ok_pick (b := p5) h64 (Any.post_val hb rfl (by rw [hc' _, h67, HP6.out]; cases p5 <;> rfl))
      · refine Any.owes_plain rfl fun ρ wo hs' hb hc' => ?_
        have h68 : ρ (.tmp 68) = .bool p6 := hs'.new' 68 35 (by kernel_rfl)
        exact Any.ok_move (Any.post_val hb rfl h68)
      · refine Any.owes_guard rfl rfl (by kernel_rfl) rfl rfl fun hp ρ wo hs' hb hc' => ?_
        have h6 : ρ (.tmp 6) = .pointer (some ⟨w.heap.size + 1, 0, none⟩) := hs'.old' 6 (by kernel_rfl)
        go_simp
        exact Any.is_mk rfl
      · refine Any.owes_guard rfl rfl (by kernel_rfl) rfl rfl fun hp ρ wo hs' hb hc' => ?_
        have h70 : ρ (.tmp 70) = if p6 = false then .pointer (some ⟨w.heap.size + 1, 2, none⟩) else undef := hs'.new' 70 37 (by kernel_rfl)
        rw [if_pos hp] at h70
        obtain ⟨y0, y1, y2, y3, y4, y5⟩ := day_cells (Sc.blk hb (lt_blk HD1.out) HD1.out)
        go_simp
        exact Any.is_mk rfl
      · refine Any.owes_guard rfl rfl (by kernel_rfl) rfl rfl fun hp ρ wo hs' hb hc' => ?_
        have h4 : ρ (.tmp 4) = .pointer (some ⟨w.heap.size, 0, none⟩) := hs'.old' 4 (by kernel_rfl)
        go_simp
        exact Any.is_mk rfl
      · refine Any.owes_guard rfl rfl (by kernel_rfl) rfl rfl fun hp ρ wo hs' hb hc' => ?_
        have h72 : ρ (.tmp 72) = if p6 = false then .pointer (some ⟨w.heap.size, 7, none⟩) else undef := hs'.new' 72 39 (by kernel_rfl)
        rw [if_pos hp] at h72
        obtain ⟨x8, x7⟩ := tm_more (Sc.blk hb (lt_blk HX1.out) HX1.out)
        go_simp
        exact Any.is_mk rfl
      · refine Any.owes_guard rfl rfl (by kernel_rfl) rfl rfl fun hp ρ wo hs' hb hc' => ?_
        have h71 : ρ (.tmp 71) = if p6 = false then .int .i64 d2 else undef := hs'.new' 71 38 (by kernel_rfl)
        rw [if_pos hp] at h71
        have h73 : ρ (.tmp 73) = if p6 = false then .int .i64 t.expiry else undef := hs'.new' 73 40 (by kernel_rfl)
        rw [if_pos hp] at h73
        go_simp
        exact Any.is_mk rfl
      · refine Any.owes_plain rfl fun ρ wo hs' hb hc' => ?_
        have h69 : ρ (.tmp 69) = .bool p6 := hs'.new' 69 36 (by kernel_rfl)
        have h74 : ρ (.tmp 74) = if p6 = false then .bool (decide (t.expiry < d2)) else undef := hs'.new' 74 41 (by kernel_rfl)
        exact Any.ok_pick (b := p6) h69 (Any.post_val hb rfl (by rw [hc' _, h74, HP7.out]; cases p6 <;> rfl))
      · refine Any.owes_plain rfl fun ρ wo hs' hb hc' => ?_
        have h75 : ρ (.tmp 75) = .bool p7 := hs'.new' 75 42 (by kernel_rfl)
        exact Any.ok_move (Any.post_val hb rfl h75)
      · refine Any.owes_guard rfl rfl (by kernel_rfl) rfl rfl fun hp ρ wo hs' hb hc' => ?_
        have h6 : ρ (.tmp 6) = .pointer (some ⟨w.heap.size + 1, 0, none⟩) := hs'.old' 6 (by kernel_rfl)
        go_simp
        exact Any.is_mk rfl
      · refine Any.owes_guard rfl rfl (by kernel_rfl) rfl rfl fun hp ρ wo hs' hb hc' => ?_
        have h77 : ρ (.tmp 77) = if p7 = false then .pointer (some ⟨w.heap.size + 1, 5, none⟩) else undef := hs'.new' 77 44 (by kernel_rfl)
        rw [if_pos hp] at h77
        obtain ⟨y0, y1, y2, y3, y4, y5⟩ := day_cells (Sc.blk hb (lt_blk HD1.out) HD1.out)
        go_simp
        exact Any.is_mk rfl
      · refine Any.owes_guard rfl rfl (by kernel_rfl) rfl rfl fun hp ρ wo hs' hb hc' => ?_
        have h78 : ρ (.tmp 78) = if p7 = false then .int .i64 d5 else undef := hs'.new' 78 45 (by kernel_rfl)
        rw [if_pos hp] at h78
        go_simp
        exact Any.is_mk rfl
      · refine Any.owes_plain rfl fun ρ wo hs' hb hc' => ?_
        have h76 : ρ (.tmp 76) = .bool p7 := hs'.new' 76 43 (by kernel_rfl)
        have h79 : ρ (.tmp 79) = if p7 = false then .bool (decide (1048576 < d5)) else undef := hs'.new' 79 46 (by kernel_rfl)
        exact Any.ok_pick (b := p7) h76 (Any.post_val hb rfl (by rw [hc' _, h79, HP8.out]; cases p7 <;> rfl))
    intro vals w5 hb hk
    have h47 : vals 47 = .bool p8 := hk 47 (by kernel_rfl)
    have HX5 := Lib.hid (Sc.blk hb (lt_blk HX1.out) HX1.out)
    have HD5 := Lib.hid (Sc.blk hb (lt_blk HD1.out) HD1.out)
    have HB5 := Lib.hid (below_then HB1.out hb)
    clear hk hb
    simp only [Any.putAll]
    go_frame
    simp only [Nat.zero_add, Nat.reduceAdd]
    rw [h47]
    clear h47
    cases p8
    rotate_left
    · go_wp2_with fail
      go_ret
      exact retB rfl (HB0.out.trans (HB5.out.mono HB0.out.size))
    have hall : lv = true ∧ ¬ am < 1 ∧ ¬ nm < am ∧ ¬ 1099511627776 < am ∧ ¬ (t.part = false ∧ am < nl) ∧ ¬ d0 < 0 ∧ ¬ t.expiry < d2 ∧ ¬ 1048576 < d5 := by
      have e8 := HP8.out
      rw [HP7.out, HP6.out, HP5.out, HP4.out, HP3.out, HP2.out, HP1.out, HQ.out, HPT.out] at e8
      simp only [Bool.false_eq, Bool.or_eq_false_iff, decide_eq_false_iff_not, Bool.not_eq_false', Bool.and_eq_false_iff] at e8
      obtain ⟨⟨⟨⟨⟨⟨⟨⟨-, e1⟩, e2⟩, e3⟩, e4⟩, e5⟩, e6⟩, e7⟩, e9⟩ := e8
      exact ⟨e1, e2, e3, e4, fun h => e5.elim (fun g => by rw [h.1] at g; cases g) (fun g => g h.2), e6, e7, e9⟩
    have HALL := Lib.hid hall
    clear hall HP1 HP2 HP3 HP4 HP5 HP6 HP7 HP8 HPT HQ
    go_wp2_with fail
    go_loopw [11] (fun i wr => ∃ k : Int, 1 ≤ k ∧ k ≤ 6 ∧ i = .int .i64 k ∧ (2 ≤ k → d0 ≤ d1) ∧ (3 ≤ k → d1 ≤ d2) ∧ (4 ≤ k → d2 ≤ d3) ∧ (5 ≤ k → d3 ≤ d4) ∧ (6 ≤ k → d4 ≤ d5) ∧ Below w0.heap.size w0 wr ∧ wr.heap[w.heap.size]? = some (.cells t.cells 23 (0, 0)) ∧ wr.heap[w.heap.size + 1]? = some (.cells #[.int .i64 d0, .int .i64 d1, .int .i64 d2, .int .i64 d3, .int .i64 d4, .int .i64 d5] 48 (0, 0))) (fun i _ => (6 - intOf i).toNat)
    case atStart => exact ⟨1, by omega, by omega, rfl, by omega, by omega, by omega, by omega, by omega, HB5.out, HX5.out, HD5.out⟩
    case round =>
      obtain ⟨k, k1, k6, rfl, s1, s2, s3, s4, s5, hbel, hx, hd⟩ := hrel
      have HBEL := Lib.hid hbel
      have HX1 := Lib.hid hx
      have HD1 := Lib.hid hd
      have HSO := Lib.hid (And.intro s1 (And.intro s2 (And.intro s3 (And.intro s4 s5))))
      obtain ⟨y0, y1, y2, y3, y4, y5⟩ := day_cells hd
      clear hbel hx hd s1 s2 s3 s4 s5
      obtain rfl | rfl | rfl | rfl | rfl | rfl : k = 1 ∨ k = 2 ∨ k = 3 ∨ k = 4 ∨ k = 5 ∨ k = 6 := by omega
      · by_cases hk : d1 < d0
        · have tk : decide (d1 < d0) = true := decide_eq_true hk
          clear hk
          go_wp2_with fail
          go_quiet (fail)
          go_wp2_with fail
          go_ret
          exact retB rfl (HB0.out.trans ((below_drewN HBEL.out nq).mono HB0.out.size))
        · have tk : decide (d1 < d0) = false := decide_eq_false hk
          have HK := Lib.hid hk
          clear hk
          go_wp2_with fail
          go_quiet (fail)
          go_wp2_with fail
          go_roundw
          case rel => exact ⟨2, by omega, by omega, rfl, by have := HSO.out; have := HK.out; omega, by have := HSO.out; have := HK.out; omega, by have := HSO.out; have := HK.out; omega, by have := HSO.out; have := HK.out; omega, by have := HSO.out; have := HK.out; omega, below_drewN HBEL.out nq, HX1.out, HD1.out⟩
          case measure => (simp [intOf]) <;> omega
      · by_cases hk : d2 < d1
        · have tk : decide (d2 < d1) = true := decide_eq_true hk
          clear hk
          go_wp2_with fail
          go_quiet (fail)
          go_wp2_with fail
          go_ret
          exact retB rfl (HB0.out.trans ((below_drewN HBEL.out nq).mono HB0.out.size))
        · have tk : decide (d2 < d1) = false := decide_eq_false hk
          have HK := Lib.hid hk
          clear hk
          go_wp2_with fail
          go_quiet (fail)
          go_wp2_with fail
          go_roundw
          case rel => exact ⟨3, by omega, by omega, rfl, by have := HSO.out; have := HK.out; omega, by have := HSO.out; have := HK.out; omega, by have := HSO.out; have := HK.out; omega, by have := HSO.out; have := HK.out; omega, by have := HSO.out; have := HK.out; omega, below_drewN HBEL.out nq, HX1.out, HD1.out⟩
          case measure => (simp [intOf]) <;> omega
      · by_cases hk : d3 < d2
        · have tk : decide (d3 < d2) = true := decide_eq_true hk
          clear hk
          go_wp2_with fail
          go_quiet (fail)
          go_wp2_with fail
          go_ret
          exact retB rfl (HB0.out.trans ((below_drewN HBEL.out nq).mono HB0.out.size))
        · have tk : decide (d3 < d2) = false := decide_eq_false hk
          have HK := Lib.hid hk
          clear hk
          go_wp2_with fail
          go_quiet (fail)
          go_wp2_with fail
          go_roundw
          case rel => exact ⟨4, by omega, by omega, rfl, by have := HSO.out; have := HK.out; omega, by have := HSO.out; have := HK.out; omega, by have := HSO.out; have := HK.out; omega, by have := HSO.out; have := HK.out; omega, by have := HSO.out; have := HK.out; omega, below_drewN HBEL.out nq, HX1.out, HD1.out⟩
          case measure => (simp [intOf]) <;> omega
      · by_cases hk : d4 < d3
        · have tk : decide (d4 < d3) = true := decide_eq_true hk
          clear hk
          go_wp2_with fail
          go_quiet (fail)
          go_wp2_with fail
          go_ret
          exact retB rfl (HB0.out.trans ((below_drewN HBEL.out nq).mono HB0.out.size))
        · have tk : decide (d4 < d3) = false := decide_eq_false hk
          have HK := Lib.hid hk
          clear hk
          go_wp2_with fail
          go_quiet (fail)
          go_wp2_with fail
          go_roundw
          case rel => exact ⟨5, by omega, by omega, rfl, by have := HSO.out; have := HK.out; omega, by have := HSO.out; have := HK.out; omega, by have := HSO.out; have := HK.out; omega, by have := HSO.out; have := HK.out; omega, by have := HSO.out; have := HK.out; omega, below_drewN HBEL.out nq, HX1.out, HD1.out⟩
          case measure => (simp [intOf]) <;> omega
      · by_cases hk : d5 < d4
        · have tk : decide (d5 < d4) = true := decide_eq_true hk
          clear hk
          go_wp2_with fail
          go_quiet (fail)
          go_wp2_with fail
          go_ret
          exact retB rfl (HB0.out.trans ((below_drewN HBEL.out nq).mono HB0.out.size))
        · have tk : decide (d5 < d4) = false := decide_eq_false hk
          have HK := Lib.hid hk
          clear hk
          go_wp2_with fail
          go_quiet (fail)
          go_wp2_with fail
          go_roundw
          case rel => exact ⟨6, by omega, by omega, rfl, by have := HSO.out; have := HK.out; omega, by have := HSO.out; have := HK.out; omega, by have := HSO.out; have := HK.out; omega, by have := HSO.out; have := HK.out; omega, by have := HSO.out; have := HK.out; omega, below_drewN HBEL.out nq, HX1.out, HD1.out⟩
          case measure => (simp [intOf]) <;> omega
      · have HWIN : Hid (WayIn t am d0 d1 d2 d3 d4 d5) := Lib.hid (by
          obtain ⟨e1, e2, e3, e4, e5, e6, e7, e8⟩ := HALL.out
          obtain ⟨b0, b1, b2, b3, b4⟩ := lives_names' (HLV.out.symm.trans e1)
          have hl1 := HLE.out b0
          have hm1 := HMO.out b0
          obtain ⟨s1, s2, s3, s4, s5⟩ := HSO.out
          exact ⟨b0, b1, b2, b3, b4, by omega, by omega, by omega, fun h => by have : ¬ am < nl := fun g => e5 ⟨h, g⟩; omega, by omega, s1 (by omega), s2 (by omega), s3 (by omega), s4 (by omega), s5 (by omega), by omega, by omega⟩)
        have NW := Lib.hid (NWX.out HALL.out.1)
        clear y0 y1 y2 y3 y4 y5 NWX HALL HLE HMO HSO HLV MA
        cases hcf : t.con.toList.isEmpty
        · cases refused
          · have HWAY := Lib.hid (way_goes HWIN.out true false (by rw [hcf]; rfl))
            have te : t.con.toList.isEmpty = false := hcf
            clear hcf
            go_wp2_with (first
              | ((with_reducible refine (CR.out _).mono ?_); rintro e w4 ⟨rfl, hb4⟩; have HX1 := Lib.hid (Sc.blk hb4 (lt_blk HX1.out) HX1.out); have HD1 := Lib.hid (Sc.blk hb4 (lt_blk HD1.out) HD1.out); have HBEL := Lib.hid (below_then HBEL.out hb4); clear hb4)
              | (refine load_tm (.tmp 4) w.heap.size t rfl rfl HX1.out ?_)
              | ((with_reducible refine (NW.out _).mono ?_); rintro e w6 ⟨bk, rfl, hb6, F0, hlv6, hF6⟩; have HX6 := Lib.hid (Sc.blk hb6 (lt_blk HX1.out) HX1.out); have HD6 := Lib.hid (Sc.blk hb6 (lt_blk HD1.out) HD1.out); have HF6 : Hid (∀ k, F0 k → w0.heap.size ≤ k) := Lib.hid (fun k hk => Nat.le_trans HBEL.out.size (hF6 k hk)); have HBEL := Lib.hid (below_then HBEL.out hb6); have HLV6 := Lib.hid hlv6; obtain ⟨x0, x1, x2, x3⟩ := tm_load HX6.out; clear hb6 hlv6 hF6)
              | fail)
            go_quiet (fail)
            obtain ⟨w7, hw7⟩ : ∃ x, x = w6.drewN nq := ⟨_, rfl⟩
            have HB7 : Hid (Below w6.heap.size w6 w7) := Lib.hid (hw7 ▸ below_drewN (Below.refl _ _) nq)
            rw [← hw7]
            have RD : Hid (∀ W, Below w6.heap.size w6 W → WReads t d0 d1 d2 d3 d4 d5 w.heap.size W) := Lib.hid (fun W h => reads_of (Sc.blk h (lt_blk HX6.out) HX6.out) (Sc.blk h (lt_blk HD6.out) HD6.out))
            clear hw7 x0 x1 x2 x3
            have HR := RD.out _ HB7.out
            obtain ⟨q0, q1, q2, q3, z0, z1, z2, z3, z4, z5⟩ := HR
            have HR := RD.out _ (bl_alloc HB7.out (.cells #[.int .i64 0, .string t.iss, .int .i64 d0, .int .i64 0] 40))
            obtain ⟨r0, r1, r2, r3, y0, y1, y2, y3, y4, y5⟩ := HR
            have HO8 : Hid ((w7.alloc (.cells #[.int .i64 0, .string t.iss, .int .i64 d0, .int .i64 0] 40)).ownsRow w6.heap.size 40 4 (.slice (some ⟨w7.heap.size, 0, none⟩) 1 1) 1 [.int .i64 0, .string t.iss, .int .i64 d0, .int .i64 0]) := Lib.hid (lit_own (n := 1) (sz := 4) HB7.out.size (by simp) (by simp [maxLen]))
            go_wp2_with (first
              | ((with_reducible refine wpl_app (m := 1) (w := ((w7.alloc (.cells #[.int .i64 0, .string t.iss, .int .i64 d0, .int .i64 0] 40)).alloc (.cells #[.int .i64 1, .string t.con, .int .i64 d1, .int .i64 0] 40))) (b := w7.heap.size + 1) (cs := #[.int .i64 1, .string t.con, .int .i64 d1, .int .i64 0]) ?_ ?_ ?_ Try.underlying24 HI.out.1 HI.out.2.1 HI.out.2.2.1 HI.out.2.2.2 rfl (by decide) (HO8.out.alloc (.cells #[.int .i64 1, .string t.con, .int .i64 d1, .int .i64 0] 40)) (at_size (heap_alloc_new (w7.alloc (.cells #[.int .i64 0, .string t.iss, .int .i64 d0, .int .i64 0] 40)) (.cells #[.int .i64 1, .string t.con, .int .i64 d1, .int .i64 0] 40)) (by simp)) rfl (ev_lits _ (by simp [Value.oneCell'])) (by simp [maxLen]) (by omega) (bl_alloc (bl_alloc HB7.out (.cells #[.int .i64 0, .string t.iss, .int .i64 d0, .int .i64 0] 40)) (.cells #[.int .i64 1, .string t.con, .int .i64 d1, .int .i64 0] 40)).size ?_); rfl; rfl; rfl; intro v9 w9 hown9 hgrow9 hwho9; have HB9 := Lib.hid ((bl_alloc (bl_alloc HB7.out (.cells #[.int .i64 0, .string t.iss, .int .i64 d0, .int .i64 0] 40)) (.cells #[.int .i64 1, .string t.con, .int .i64 d1, .int .i64 0] 40)).grown hgrow9 (bl_alloc (bl_alloc HB7.out (.cells #[.int .i64 0, .string t.iss, .int .i64 d0, .int .i64 0] 40)) (.cells #[.int .i64 1, .string t.con, .int .i64 d1, .int .i64 0] 40)).size (fun k hk => ((HO8.out.alloc (.cells #[.int .i64 1, .string t.con, .int .i64 d1, .int .i64 0] 40)).lt k hk).1)); have HO9 := Lib.hid hown9; have HR := RD.out _ HB9.out; obtain ⟨r0, r1, r2, r3, y0, y1, y2, y3, y4, y5⟩ := HR; clear hgrow9 hown9 hwho9)
              | ((with_reducible refine wpl_app (m := 1) (w := ((w9.alloc (.cells #[.int .i64 2, .string t.ben, .int .i64 d2, .int .i64 am] 40)).alloc (.cells #[.int .i64 2, .string t.ben, .int .i64 d2, .int .i64 am] 40))) (b := w9.heap.size + 1) (cs := #[.int .i64 2, .string t.ben, .int .i64 d2, .int .i64 am]) ?_ ?_ ?_ Try.underlying24 HI.out.1 HI.out.2.1 HI.out.2.2.1 HI.out.2.2.2 rfl (by decide) ((HO9.out.alloc (.cells #[.int .i64 2, .string t.ben, .int .i64 d2, .int .i64 am] 40)).alloc (.cells #[.int .i64 2, .string t.ben, .int .i64 d2, .int .i64 am] 40)) (at_size (heap_alloc_new (w9.alloc (.cells #[.int .i64 2, .string t.ben, .int .i64 d2, .int .i64 am] 40)) (.cells #[.int .i64 2, .string t.ben, .int .i64 d2, .int .i64 am] 40)) (by simp)) rfl (ev_lits _ (by simp [Value.oneCell'])) (by simp [maxLen]) (by omega) (bl_alloc (bl_alloc HB9.out (.cells #[.int .i64 2, .string t.ben, .int .i64 d2, .int .i64 am] 40)) (.cells #[.int .i64 2, .string t.ben, .int .i64 d2, .int .i64 am] 40)).size ?_); rfl; rfl; rfl; intro v11 w11 hown11 hgrow11 hwho11; have HB11 := Lib.hid ((bl_alloc (bl_alloc HB9.out (.cells #[.int .i64 2, .string t.ben, .int .i64 d2, .int .i64 am] 40)) (.cells #[.int .i64 2, .string t.ben, .int .i64 d2, .int .i64 am] 40)).grown hgrow11 (bl_alloc (bl_alloc HB9.out (.cells #[.int .i64 2, .string t.ben, .int .i64 d2, .int .i64 am] 40)) (.cells #[.int .i64 2, .string t.ben, .int .i64 d2, .int .i64 am] 40)).size (fun k hk => (((HO9.out.alloc (.cells #[.int .i64 2, .string t.ben, .int .i64 d2, .int .i64 am] 40)).alloc (.cells #[.int .i64 2, .string t.ben, .int .i64 d2, .int .i64 am] 40)).lt k hk).1)); have HO11 := Lib.hid hown11; have HR := RD.out _ HB11.out; obtain ⟨r0, r1, r2, r3, y0, y1, y2, y3, y4, y5⟩ := HR; clear hgrow11 hown11 hwho11)
              | ((with_reducible refine wpl_app (m := 2) (w := (w11.alloc (.cells #[.int .i64 4, .string t.con, .int .i64 d3, .int .i64 0, .int .i64 5, .string t.con, .int .i64 d4, .int .i64 0] 40))) (b := w11.heap.size) (cs := #[.int .i64 4, .string t.con, .int .i64 d3, .int .i64 0, .int .i64 5, .string t.con, .int .i64 d4, .int .i64 0]) ?_ ?_ ?_ Try.underlying24 HI.out.1 HI.out.2.1 HI.out.2.2.1 HI.out.2.2.2 rfl (by decide) (HO11.out.alloc (.cells #[.int .i64 4, .string t.con, .int .i64 d3, .int .i64 0, .int .i64 5, .string t.con, .int .i64 d4, .int .i64 0] 40)) (at_size (heap_alloc_new w11 (.cells #[.int .i64 4, .string t.con, .int .i64 d3, .int .i64 0, .int .i64 5, .string t.con, .int .i64 d4, .int .i64 0] 40)) (by simp)) rfl (ev_lits _ (by simp [Value.oneCell'])) (by simp [maxLen]) (by omega) (bl_alloc HB11.out (.cells #[.int .i64 4, .string t.con, .int .i64 d3, .int .i64 0, .int .i64 5, .string t.con, .int .i64 d4, .int .i64 0] 40)).size ?_); rfl; rfl; rfl; intro v13 w13 hown13 hgrow13 hwho13; have HB13 := Lib.hid ((bl_alloc HB11.out (.cells #[.int .i64 4, .string t.con, .int .i64 d3, .int .i64 0, .int .i64 5, .string t.con, .int .i64 d4, .int .i64 0] 40)).grown hgrow13 (bl_alloc HB11.out (.cells #[.int .i64 4, .string t.con, .int .i64 d3, .int .i64 0, .int .i64 5, .string t.con, .int .i64 d4, .int .i64 0] 40)).size (fun k hk => ((HO11.out.alloc (.cells #[.int .i64 4, .string t.con, .int .i64 d3, .int .i64 0, .int .i64 5, .string t.con, .int .i64 d4, .int .i64 0] 40)).lt k hk).1)); have HO13 := Lib.hid hown13; have HR := RD.out _ HB13.out; obtain ⟨r0, r1, r2, r3, y0, y1, y2, y3, y4, y5⟩ := HR; clear hgrow13 hown13 hwho13)
              | ((with_reducible refine wpl_app (m := 1) (w := (w13.alloc (.cells #[.int .i64 6, .string t.iss, .int .i64 d5, .int .i64 0] 40))) (b := w13.heap.size) (cs := #[.int .i64 6, .string t.iss, .int .i64 d5, .int .i64 0]) ?_ ?_ ?_ Try.underlying24 HI.out.1 HI.out.2.1 HI.out.2.2.1 HI.out.2.2.2 rfl (by decide) (HO13.out.alloc (.cells #[.int .i64 6, .string t.iss, .int .i64 d5, .int .i64 0] 40)) (at_size (heap_alloc_new w13 (.cells #[.int .i64 6, .string t.iss, .int .i64 d5, .int .i64 0] 40)) (by simp)) rfl (ev_lits _ (by simp [Value.oneCell'])) (by simp [maxLen]) (by omega) (bl_alloc HB13.out (.cells #[.int .i64 6, .string t.iss, .int .i64 d5, .int .i64 0] 40)).size ?_); rfl; rfl; rfl; intro v14 w14 hown14 hgrow14 hwho14; have HB14 := Lib.hid ((bl_alloc HB13.out (.cells #[.int .i64 6, .string t.iss, .int .i64 d5, .int .i64 0] 40)).grown hgrow14 (bl_alloc HB13.out (.cells #[.int .i64 6, .string t.iss, .int .i64 d5, .int .i64 0] 40)).size (fun k hk => ((HO13.out.alloc (.cells #[.int .i64 6, .string t.iss, .int .i64 d5, .int .i64 0] 40)).lt k hk).1)); have HO14 := Lib.hid hown14; have HR := RD.out _ HB14.out; obtain ⟨r0, r1, r2, r3, y0, y1, y2, y3, y4, y5⟩ := HR; clear hgrow14 hown14 hwho14)
              | ((with_reducible refine wpl_app (m := 1) (w := (w14.alloc (.cells #[.int .i64 6, .string t.app, .int .i64 d5, .int .i64 0] 40))) (b := w14.heap.size) (cs := #[.int .i64 6, .string t.app, .int .i64 d5, .int .i64 0]) ?_ ?_ ?_ Try.underlying24 HI.out.1 HI.out.2.1 HI.out.2.2.1 HI.out.2.2.2 rfl (by decide) (HO14.out.alloc (.cells #[.int .i64 6, .string t.app, .int .i64 d5, .int .i64 0] 40)) (at_size (heap_alloc_new w14 (.cells #[.int .i64 6, .string t.app, .int .i64 d5, .int .i64 0] 40)) (by simp)) rfl (ev_lits _ (by simp [Value.oneCell'])) (by simp [maxLen]) (by omega) (bl_alloc HB14.out (.cells #[.int .i64 6, .string t.app, .int .i64 d5, .int .i64 0] 40)).size ?_); rfl; rfl; rfl; intro v15 w15 hown15 hgrow15 hwho15; have HB15 := Lib.hid ((bl_alloc HB14.out (.cells #[.int .i64 6, .string t.app, .int .i64 d5, .int .i64 0] 40)).grown hgrow15 (bl_alloc HB14.out (.cells #[.int .i64 6, .string t.app, .int .i64 d5, .int .i64 0] 40)).size (fun k hk => ((HO14.out.alloc (.cells #[.int .i64 6, .string t.app, .int .i64 d5, .int .i64 0] 40)).lt k hk).1)); have HO15 := Lib.hid hown15; have HR := RD.out _ HB15.out; obtain ⟨r0, r1, r2, r3, y0, y1, y2, y3, y4, y5⟩ := HR; clear hgrow15 hown15 hwho15)
              | fail)
            generalize hes : wayEs t am d0 d1 d2 d3 d4 d5 true false = es at *
            have HOE : Hid (w15.ownsRow w6.heap.size 40 4 v15 es.length (evCells es)) := Lib.hid (by rw [← hes]; simpa [wayEs, evCells, Ev.row] using HO15.out)
            have HSE := Lib.hid (own_evs HOE.out rfl)
            have HE9 : Hid (es.length ≤ 9) := Lib.hid (by rw [← hes]; simp [wayEs])
            obtain ⟨av, cv, rfl⟩ : ∃ a c, v15 = .slice a es.length c := ownsRow_shape HOE.out
            have hel : (es.length : Int) ≤ 9 := by have := HE9.out; omega
            have HLV15 := Lib.hid (HLV6.out.below HB15.out)
            have HBX := Lib.hid (HBEL.out.trans (HB15.out.mono HBEL.out.size))
            have HX15 := Lib.hid (Sc.blk HB15.out (lt_blk HX6.out) HX6.out)
            clear hes r0 r1 r2 r3 y0 y1 y2 y3 y4 y5 q0 q1 q2 q3 z0 z1 z2 z3 z4 z5
            have HZ := Lib.hid HWAY.out
            obtain ⟨lz, hgo, hlc, hls, hle⟩ := HZ.out
            have HAT := Lib.hid (goes_at es _ _ hgo)
            have HEND := Lib.hid (goes_end es _ _ hgo)
            have HLZ := Lib.hid (And.intro hls hle)
            clear hgo hlc hls hle HWAY HZ
            have HFL : Hid (∀ b, F0 b → b < w6.heap.size) := Lib.hid HLV6.out.lt
            have HROW : Hid (∀ b, (Value.slice av es.length cv).ownBlock = some b → ¬ F0 b) := Lib.hid (fun b hb e => by have := (HOE.out.lt b hb).1; have := HFL.out b e; omega)
            go_loopw [18] (fun i wr => ∃ (k : Nat) (F : Nat → Prop), k ≤ es.length ∧ i = .int .i64 k ∧ Lv wr 74 F bk (onL (Lf.new t.cr) (es.take k)) ∧ (∀ b, F b → F0 b ∨ w15.heap.size ≤ b) ∧ Keep F0 w15 wr) (fun i _ => es.length - (intOf i).toNat)
            case atStart => exact ⟨0, F0, Nat.zero_le _, rfl, HLV15.out, fun _ h => .inl h, Keep.refl _ _⟩
            case round =>
              obtain ⟨k, F, hk, rfl, hlv, hF, hkp⟩ := hrel
              have HLK := Lib.hid hlv
              have HFK := Lib.hid hF
              have HKP := Lib.hid hkp
              have HSK := Lib.hid (HSE.out.keep hkp HROW.out)
              clear hlv hF
              by_cases hlt : k < es.length
              · obtain ⟨b, off, rfl, -, hb, hc⟩ := HSK.out.at (i := k) (by simpa using hlt)
                have hr := hc k es[k].row (by simp [hlt])
                have c0 : wr.cell? ⟨b, off + k * 4, none⟩ = some (.int .i64 es[k].kind) := hr 0 _ rfl
                have c1 : wr.cell? ⟨b, off + k * 4 + 1, none⟩ = some (.string es[k].party) := hr 1 _ rfl
                have c2 : wr.cell? ⟨b, off + k * 4 + 2, none⟩ = some (.int .i64 es[k].day) := hr 2 _ rfl
                have c3 : wr.cell? ⟨b, off + k * 4 + 3, none⟩ = some (.int .i64 es[k].amt) := hr 3 _ rfl
                have HT := Lib.hid (onL_take (Lf.new t.cr) es k hlt)
                have hz := HAT.out k hlt
                have hg : (onL (Lf.new t.cr) (es.take k)).good t.cr := lifeOf_good t.cr (es.take k)
                have hln := lifeOf_len t.cr (es.take k)
                have hln' : (onL (Lf.new t.cr) (es.take k)).evs.length ≤ 9 ∧ (onL (Lf.new t.cr) (es.take k)).paid.length ≤ 9 := by
                  have h1 : (es.take k).length ≤ 9 := by have := HE9.out; simp; omega
                  exact ⟨Nat.le_trans hln.1 h1, Nat.le_trans hln.2 h1⟩
                have DO := Lib.hid (doP_any bk _ F es[k] wr HLK.out hg.s0 hg.s7 (by omega) (by omega))
                unfold Ev.cells at DO
                clear hr hc hg hln hln' hkp
                generalize hx : es[k] = ev at *
                generalize onL (Lf.new t.cr) (es.take k) = lk at *
                generalize lk.step ev = st at *
                obtain ⟨cd, l1⟩ := st
                simp only at hz DO HT
                subst hz
                clear hx
                go_wp2_with (first
                  | ((with_reducible refine DO.out.mono ?_); rintro e w16 ⟨rfl, hk16, F16, hl16, hF16⟩; have HK16 := Lib.hid hk16; have HL16 := Lib.hid hl16; have HF16 := Lib.hid hF16; clear hk16 hl16 hF16)
                  | fail)
                go_roundw
                case rel => exact ⟨k + 1, F16, by omega, by go_num, by rw [HT.out]; exact HL16.out, fun b hb => (HF16.out b hb).elim (HFK.out b) (fun h => .inr (Nat.le_trans HKP.out.size h)), HKP.out.trans HK16.out (fun i hi h => (HFK.out i h).resolve_right (by omega))⟩
                case measure => (simp [intOf]) <;> omega
              · have hkl : k = es.length := by omega
                have HLE : Hid (Lv wr 74 F bk lz) := Lib.hid (by have := HLK.out; rw [List.take_of_length_le (by omega), HEND.out] at this; exact this)
                have hxk := HKP.out.blk HX15.out (fun h => by have := HF6.out _ h; have := lt_blk HX.out; omega)
                have HXK := Lib.hid hxk
                obtain ⟨r0, r1, r2, r3⟩ := tm_load hxk
                have HBW : Hid (Below w0.heap.size w0 wr) := Lib.hid (HKP.out.behind HBX.out HBX.out.size (fun b hlt h => by have := HF6.out b h; omega))
                have OW := Lib.hid (fun W p (h : Below wr.heap.size wr W) => owes_six bk lz F p W (HLE.out.below h) HLZ.out.1)
                have HST := Lib.hid (fun W (h : Below wr.heap.size wr W) => state_six bk lz F W (HLE.out.below h) HLZ.out.1)
                have HH := Lib.hid (fun W (h : Below wr.heap.size wr W) => hist_any bk lz F W (HLE.out.below h) (by rw [HLZ.out.2]; have := HE9.out; omega))
                have HSM := Lib.hid (fun W (h : Below wr.heap.size wr W) v u (hv : Sl W 4 v (es.map Ev.row)) (hu : Sl W 4 u (es.map Ev.row)) => show Calls Try.prog 22 #[v, u] W (RetB W true) from by have h9 := refSame34_any es es v u W hv hu; rw [decide_eq_true rfl] at h9; exact h9)
                rw [HLZ.out.2] at HH
                clear hkl hkp hxk
                go_wp2_with (first
                  | ((with_reducible refine (OW.out _ _ (Below.refl _ _)).mono ?_); rintro e w20 ⟨rfl, hb20⟩; have HB20 := Lib.hid hb20; obtain ⟨r0, r1, r2, r3⟩ := tm_load (Sc.blk hb20 (lt_blk HXK.out) HXK.out); clear hb20)
                  | ((with_reducible refine (OW.out _ _ HB20.out).mono ?_); rintro e w21 ⟨rfl, hb21⟩; have HB20 := Lib.hid (below_then HB20.out hb21); obtain ⟨r0, r1, r2, r3⟩ := tm_load (Sc.blk HB20.out (lt_blk HXK.out) HXK.out); clear hb21)
                  | ((with_reducible refine (HST.out _ HB20.out).mono ?_); rintro e w22 ⟨rfl, hb22⟩; have HB20 := Lib.hid (below_then HB20.out hb22); clear hb22)
                  | ((with_reducible refine (HH.out _ HB20.out).mono ?_); rintro e w23 ⟨vh, rfl, hown23, hb23⟩; have HB20 := Lib.hid (below_then HB20.out hb23); have HSH := Lib.hid (own_evs hown23 rfl); clear hb23 hown23)
                  | ((with_reducible refine (HSM.out _ HB20.out _ _ HSH.out (HSK.out.below HB20.out (Nat.le_refl _))).mono ?_); rintro e w24 ⟨rfl, hb24⟩; have HB20 := Lib.hid (below_then HB20.out hb24); clear hb24)
                  | fail)
                go_ret
                exact retB rfl (HB0.out.trans ((HBW.out.trans (HB20.out.mono HBW.out.size)).mono HB0.out.size))
          · have HWAY := Lib.hid (way_goes HWIN.out true true (by rw [hcf]; rfl))
            have te : t.con.toList.isEmpty = false := hcf
            clear hcf
            go_wp2_with (first
              | ((with_reducible refine (CR.out _).mono ?_); rintro e w4 ⟨rfl, hb4⟩; have HX1 := Lib.hid (Sc.blk hb4 (lt_blk HX1.out) HX1.out); have HD1 := Lib.hid (Sc.blk hb4 (lt_blk HD1.out) HD1.out); have HBEL := Lib.hid (below_then HBEL.out hb4); clear hb4)
              | (refine load_tm (.tmp 4) w.heap.size t rfl rfl HX1.out ?_)
              | ((with_reducible refine (NW.out _).mono ?_); rintro e w6 ⟨bk, rfl, hb6, F0, hlv6, hF6⟩; have HX6 := Lib.hid (Sc.blk hb6 (lt_blk HX1.out) HX1.out); have HD6 := Lib.hid (Sc.blk hb6 (lt_blk HD1.out) HD1.out); have HF6 : Hid (∀ k, F0 k → w0.heap.size ≤ k) := Lib.hid (fun k hk => Nat.le_trans HBEL.out.size (hF6 k hk)); have HBEL := Lib.hid (below_then HBEL.out hb6); have HLV6 := Lib.hid hlv6; obtain ⟨x0, x1, x2, x3⟩ := tm_load HX6.out; clear hb6 hlv6 hF6)
              | fail)
            go_quiet (fail)
            obtain ⟨w7, hw7⟩ : ∃ x, x = w6.drewN nq := ⟨_, rfl⟩
            have HB7 : Hid (Below w6.heap.size w6 w7) := Lib.hid (hw7 ▸ below_drewN (Below.refl _ _) nq)
            rw [← hw7]
            have RD : Hid (∀ W, Below w6.heap.size w6 W → WReads t d0 d1 d2 d3 d4 d5 w.heap.size W) := Lib.hid (fun W h => reads_of (Sc.blk h (lt_blk HX6.out) HX6.out) (Sc.blk h (lt_blk HD6.out) HD6.out))
            clear hw7 x0 x1 x2 x3
            have HR := RD.out _ HB7.out
            obtain ⟨q0, q1, q2, q3, z0, z1, z2, z3, z4, z5⟩ := HR
            have HR := RD.out _ (bl_alloc HB7.out (.cells #[.int .i64 0, .string t.iss, .int .i64 d0, .int .i64 0] 40))
            obtain ⟨r0, r1, r2, r3, y0, y1, y2, y3, y4, y5⟩ := HR
            have HO8 : Hid ((w7.alloc (.cells #[.int .i64 0, .string t.iss, .int .i64 d0, .int .i64 0] 40)).ownsRow w6.heap.size 40 4 (.slice (some ⟨w7.heap.size, 0, none⟩) 1 1) 1 [.int .i64 0, .string t.iss, .int .i64 d0, .int .i64 0]) := Lib.hid (lit_own (n := 1) (sz := 4) HB7.out.size (by simp) (by simp [maxLen]))
            go_wp2_with (first
              | ((with_reducible refine wpl_app (m := 1) (w := ((w7.alloc (.cells #[.int .i64 0, .string t.iss, .int .i64 d0, .int .i64 0] 40)).alloc (.cells #[.int .i64 1, .string t.con, .int .i64 d1, .int .i64 0] 40))) (b := w7.heap.size + 1) (cs := #[.int .i64 1, .string t.con, .int .i64 d1, .int .i64 0]) ?_ ?_ ?_ Try.underlying24 HI.out.1 HI.out.2.1 HI.out.2.2.1 HI.out.2.2.2 rfl (by decide) (HO8.out.alloc (.cells #[.int .i64 1, .string t.con, .int .i64 d1, .int .i64 0] 40)) (at_size (heap_alloc_new (w7.alloc (.cells #[.int .i64 0, .string t.iss, .int .i64 d0, .int .i64 0] 40)) (.cells #[.int .i64 1, .string t.con, .int .i64 d1, .int .i64 0] 40)) (by simp)) rfl (ev_lits _ (by simp [Value.oneCell'])) (by simp [maxLen]) (by omega) (bl_alloc (bl_alloc HB7.out (.cells #[.int .i64 0, .string t.iss, .int .i64 d0, .int .i64 0] 40)) (.cells #[.int .i64 1, .string t.con, .int .i64 d1, .int .i64 0] 40)).size ?_); rfl; rfl; rfl; intro v9 w9 hown9 hgrow9 hwho9; have HB9 := Lib.hid ((bl_alloc (bl_alloc HB7.out (.cells #[.int .i64 0, .string t.iss, .int .i64 d0, .int .i64 0] 40)) (.cells #[.int .i64 1, .string t.con, .int .i64 d1, .int .i64 0] 40)).grown hgrow9 (bl_alloc (bl_alloc HB7.out (.cells #[.int .i64 0, .string t.iss, .int .i64 d0, .int .i64 0] 40)) (.cells #[.int .i64 1, .string t.con, .int .i64 d1, .int .i64 0] 40)).size (fun k hk => ((HO8.out.alloc (.cells #[.int .i64 1, .string t.con, .int .i64 d1, .int .i64 0] 40)).lt k hk).1)); have HO9 := Lib.hid hown9; have HR := RD.out _ HB9.out; obtain ⟨r0, r1, r2, r3, y0, y1, y2, y3, y4, y5⟩ := HR; clear hgrow9 hown9 hwho9)
              | ((with_reducible refine wpl_app (m := 1) (w := ((w9.alloc (.cells #[.int .i64 2, .string t.ben, .int .i64 d2, .int .i64 am] 40)).alloc (.cells #[.int .i64 2, .string t.ben, .int .i64 d2, .int .i64 am] 40))) (b := w9.heap.size + 1) (cs := #[.int .i64 2, .string t.ben, .int .i64 d2, .int .i64 am]) ?_ ?_ ?_ Try.underlying24 HI.out.1 HI.out.2.1 HI.out.2.2.1 HI.out.2.2.2 rfl (by decide) ((HO9.out.alloc (.cells #[.int .i64 2, .string t.ben, .int .i64 d2, .int .i64 am] 40)).alloc (.cells #[.int .i64 2, .string t.ben, .int .i64 d2, .int .i64 am] 40)) (at_size (heap_alloc_new (w9.alloc (.cells #[.int .i64 2, .string t.ben, .int .i64 d2, .int .i64 am] 40)) (.cells #[.int .i64 2, .string t.ben, .int .i64 d2, .int .i64 am] 40)) (by simp)) rfl (ev_lits _ (by simp [Value.oneCell'])) (by simp [maxLen]) (by omega) (bl_alloc (bl_alloc HB9.out (.cells #[.int .i64 2, .string t.ben, .int .i64 d2, .int .i64 am] 40)) (.cells #[.int .i64 2, .string t.ben, .int .i64 d2, .int .i64 am] 40)).size ?_); rfl; rfl; rfl; intro v11 w11 hown11 hgrow11 hwho11; have HB11 := Lib.hid ((bl_alloc (bl_alloc HB9.out (.cells #[.int .i64 2, .string t.ben, .int .i64 d2, .int .i64 am] 40)) (.cells #[.int .i64 2, .string t.ben, .int .i64 d2, .int .i64 am] 40)).grown hgrow11 (bl_alloc (bl_alloc HB9.out (.cells #[.int .i64 2, .string t.ben, .int .i64 d2, .int .i64 am] 40)) (.cells #[.int .i64 2, .string t.ben, .int .i64 d2, .int .i64 am] 40)).size (fun k hk => (((HO9.out.alloc (.cells #[.int .i64 2, .string t.ben, .int .i64 d2, .int .i64 am] 40)).alloc (.cells #[.int .i64 2, .string t.ben, .int .i64 d2, .int .i64 am] 40)).lt k hk).1)); have HO11 := Lib.hid hown11; have HR := RD.out _ HB11.out; obtain ⟨r0, r1, r2, r3, y0, y1, y2, y3, y4, y5⟩ := HR; have HSB : Hid (w11.heap[w9.heap.size]? = some (.cells #[.int .i64 2, .string t.ben, .int .i64 d2, .int .i64 am] 40 (0, 0))) := Lib.hid (shown_kept hgrow11 (Sc.blk (one_below (w9.alloc (.cells #[.int .i64 2, .string t.ben, .int .i64 d2, .int .i64 am] 40)) (.cells #[.int .i64 2, .string t.ben, .int .i64 d2, .int .i64 am] 40)) (lt_blk (at_size (heap_alloc_new w9 (.cells #[.int .i64 2, .string t.ben, .int .i64 d2, .int .i64 am] 40)) (by simp))) (at_size (heap_alloc_new w9 (.cells #[.int .i64 2, .string t.ben, .int .i64 d2, .int .i64 am] 40)) (by simp))) (own_ne HO9.out (by simp))); obtain ⟨g0, g1, g2, g3⟩ := ev_cells4 HSB.out; clear hgrow11 hown11 hwho11)
              | ((with_reducible refine wpl_app (m := 2) (w := (w11.alloc (.cells #[.int .i64 3, .string t.con, .int .i64 d2, .int .i64 0, .int .i64 2, .string t.ben, .int .i64 d2, .int .i64 am] 40))) (b := w11.heap.size) (cs := #[.int .i64 3, .string t.con, .int .i64 d2, .int .i64 0, .int .i64 2, .string t.ben, .int .i64 d2, .int .i64 am]) ?_ ?_ ?_ Try.underlying24 HI.out.1 HI.out.2.1 HI.out.2.2.1 HI.out.2.2.2 rfl (by decide) (HO11.out.alloc (.cells #[.int .i64 3, .string t.con, .int .i64 d2, .int .i64 0, .int .i64 2, .string t.ben, .int .i64 d2, .int .i64 am] 40)) (at_size (heap_alloc_new w11 (.cells #[.int .i64 3, .string t.con, .int .i64 d2, .int .i64 0, .int .i64 2, .string t.ben, .int .i64 d2, .int .i64 am] 40)) (by simp)) rfl (ev_lits _ (by simp [Value.oneCell'])) (by simp [maxLen]) (by omega) (bl_alloc HB11.out (.cells #[.int .i64 3, .string t.con, .int .i64 d2, .int .i64 0, .int .i64 2, .string t.ben, .int .i64 d2, .int .i64 am] 40)).size ?_); rfl; rfl; rfl; intro v12 w12 hown12 hgrow12 hwho12; have HB12 := Lib.hid ((bl_alloc HB11.out (.cells #[.int .i64 3, .string t.con, .int .i64 d2, .int .i64 0, .int .i64 2, .string t.ben, .int .i64 d2, .int .i64 am] 40)).grown hgrow12 (bl_alloc HB11.out (.cells #[.int .i64 3, .string t.con, .int .i64 d2, .int .i64 0, .int .i64 2, .string t.ben, .int .i64 d2, .int .i64 am] 40)).size (fun k hk => ((HO11.out.alloc (.cells #[.int .i64 3, .string t.con, .int .i64 d2, .int .i64 0, .int .i64 2, .string t.ben, .int .i64 d2, .int .i64 am] 40)).lt k hk).1)); have HO12 := Lib.hid hown12; have HR := RD.out _ HB12.out; obtain ⟨r0, r1, r2, r3, y0, y1, y2, y3, y4, y5⟩ := HR; clear hgrow12 hown12 hwho12)
              | ((with_reducible refine wpl_app (m := 2) (w := (w12.alloc (.cells #[.int .i64 4, .string t.con, .int .i64 d3, .int .i64 0, .int .i64 5, .string t.con, .int .i64 d4, .int .i64 0] 40))) (b := w12.heap.size) (cs := #[.int .i64 4, .string t.con, .int .i64 d3, .int .i64 0, .int .i64 5, .string t.con, .int .i64 d4, .int .i64 0]) ?_ ?_ ?_ Try.underlying24 HI.out.1 HI.out.2.1 HI.out.2.2.1 HI.out.2.2.2 rfl (by decide) (HO12.out.alloc (.cells #[.int .i64 4, .string t.con, .int .i64 d3, .int .i64 0, .int .i64 5, .string t.con, .int .i64 d4, .int .i64 0] 40)) (at_size (heap_alloc_new w12 (.cells #[.int .i64 4, .string t.con, .int .i64 d3, .int .i64 0, .int .i64 5, .string t.con, .int .i64 d4, .int .i64 0] 40)) (by simp)) rfl (ev_lits _ (by simp [Value.oneCell'])) (by simp [maxLen]) (by omega) (bl_alloc HB12.out (.cells #[.int .i64 4, .string t.con, .int .i64 d3, .int .i64 0, .int .i64 5, .string t.con, .int .i64 d4, .int .i64 0] 40)).size ?_); rfl; rfl; rfl; intro v13 w13 hown13 hgrow13 hwho13; have HB13 := Lib.hid ((bl_alloc HB12.out (.cells #[.int .i64 4, .string t.con, .int .i64 d3, .int .i64 0, .int .i64 5, .string t.con, .int .i64 d4, .int .i64 0] 40)).grown hgrow13 (bl_alloc HB12.out (.cells #[.int .i64 4, .string t.con, .int .i64 d3, .int .i64 0, .int .i64 5, .string t.con, .int .i64 d4, .int .i64 0] 40)).size (fun k hk => ((HO12.out.alloc (.cells #[.int .i64 4, .string t.con, .int .i64 d3, .int .i64 0, .int .i64 5, .string t.con, .int .i64 d4, .int .i64 0] 40)).lt k hk).1)); have HO13 := Lib.hid hown13; have HR := RD.out _ HB13.out; obtain ⟨r0, r1, r2, r3, y0, y1, y2, y3, y4, y5⟩ := HR; clear hgrow13 hown13 hwho13)
              | ((with_reducible refine wpl_app (m := 1) (w := (w13.alloc (.cells #[.int .i64 6, .string t.iss, .int .i64 d5, .int .i64 0] 40))) (b := w13.heap.size) (cs := #[.int .i64 6, .string t.iss, .int .i64 d5, .int .i64 0]) ?_ ?_ ?_ Try.underlying24 HI.out.1 HI.out.2.1 HI.out.2.2.1 HI.out.2.2.2 rfl (by decide) (HO13.out.alloc (.cells #[.int .i64 6, .string t.iss, .int .i64 d5, .int .i64 0] 40)) (at_size (heap_alloc_new w13 (.cells #[.int .i64 6, .string t.iss, .int .i64 d5, .int .i64 0] 40)) (by simp)) rfl (ev_lits _ (by simp [Value.oneCell'])) (by simp [maxLen]) (by omega) (bl_alloc HB13.out (.cells #[.int .i64 6, .string t.iss, .int .i64 d5, .int .i64 0] 40)).size ?_); rfl; rfl; rfl; intro v14 w14 hown14 hgrow14 hwho14; have HB14 := Lib.hid ((bl_alloc HB13.out (.cells #[.int .i64 6, .string t.iss, .int .i64 d5, .int .i64 0] 40)).grown hgrow14 (bl_alloc HB13.out (.cells #[.int .i64 6, .string t.iss, .int .i64 d5, .int .i64 0] 40)).size (fun k hk => ((HO13.out.alloc (.cells #[.int .i64 6, .string t.iss, .int .i64 d5, .int .i64 0] 40)).lt k hk).1)); have HO14 := Lib.hid hown14; have HR := RD.out _ HB14.out; obtain ⟨r0, r1, r2, r3, y0, y1, y2, y3, y4, y5⟩ := HR; clear hgrow14 hown14 hwho14)
              | ((with_reducible refine wpl_app (m := 1) (w := (w14.alloc (.cells #[.int .i64 6, .string t.app, .int .i64 d5, .int .i64 0] 40))) (b := w14.heap.size) (cs := #[.int .i64 6, .string t.app, .int .i64 d5, .int .i64 0]) ?_ ?_ ?_ Try.underlying24 HI.out.1 HI.out.2.1 HI.out.2.2.1 HI.out.2.2.2 rfl (by decide) (HO14.out.alloc (.cells #[.int .i64 6, .string t.app, .int .i64 d5, .int .i64 0] 40)) (at_size (heap_alloc_new w14 (.cells #[.int .i64 6, .string t.app, .int .i64 d5, .int .i64 0] 40)) (by simp)) rfl (ev_lits _ (by simp [Value.oneCell'])) (by simp [maxLen]) (by omega) (bl_alloc HB14.out (.cells #[.int .i64 6, .string t.app, .int .i64 d5, .int .i64 0] 40)).size ?_); rfl; rfl; rfl; intro v15 w15 hown15 hgrow15 hwho15; have HB15 := Lib.hid ((bl_alloc HB14.out (.cells #[.int .i64 6, .string t.app, .int .i64 d5, .int .i64 0] 40)).grown hgrow15 (bl_alloc HB14.out (.cells #[.int .i64 6, .string t.app, .int .i64 d5, .int .i64 0] 40)).size (fun k hk => ((HO14.out.alloc (.cells #[.int .i64 6, .string t.app, .int .i64 d5, .int .i64 0] 40)).lt k hk).1)); have HO15 := Lib.hid hown15; have HR := RD.out _ HB15.out; obtain ⟨r0, r1, r2, r3, y0, y1, y2, y3, y4, y5⟩ := HR; clear hgrow15 hown15 hwho15)
              | fail)
            generalize hes : wayEs t am d0 d1 d2 d3 d4 d5 true true = es at *
            have HOE : Hid (w15.ownsRow w6.heap.size 40 4 v15 es.length (evCells es)) := Lib.hid (by rw [← hes]; simpa [wayEs, evCells, Ev.row] using HO15.out)
            have HSE := Lib.hid (own_evs HOE.out rfl)
            have HE9 : Hid (es.length ≤ 9) := Lib.hid (by rw [← hes]; simp [wayEs])
            obtain ⟨av, cv, rfl⟩ : ∃ a c, v15 = .slice a es.length c := ownsRow_shape HOE.out
            have hel : (es.length : Int) ≤ 9 := by have := HE9.out; omega
            have HLV15 := Lib.hid (HLV6.out.below HB15.out)
            have HBX := Lib.hid (HBEL.out.trans (HB15.out.mono HBEL.out.size))
            have HX15 := Lib.hid (Sc.blk HB15.out (lt_blk HX6.out) HX6.out)
            clear hes r0 r1 r2 r3 y0 y1 y2 y3 y4 y5 q0 q1 q2 q3 z0 z1 z2 z3 z4 z5
            have HZ := Lib.hid HWAY.out
            obtain ⟨lz, hgo, hlc, hls, hle⟩ := HZ.out
            have HAT := Lib.hid (goes_at es _ _ hgo)
            have HEND := Lib.hid (goes_end es _ _ hgo)
            have HLZ := Lib.hid (And.intro hls hle)
            clear hgo hlc hls hle HWAY HZ
            have HFL : Hid (∀ b, F0 b → b < w6.heap.size) := Lib.hid HLV6.out.lt
            have HROW : Hid (∀ b, (Value.slice av es.length cv).ownBlock = some b → ¬ F0 b) := Lib.hid (fun b hb e => by have := (HOE.out.lt b hb).1; have := HFL.out b e; omega)
            go_loopw [18] (fun i wr => ∃ (k : Nat) (F : Nat → Prop), k ≤ es.length ∧ i = .int .i64 k ∧ Lv wr 74 F bk (onL (Lf.new t.cr) (es.take k)) ∧ (∀ b, F b → F0 b ∨ w15.heap.size ≤ b) ∧ Keep F0 w15 wr) (fun i _ => es.length - (intOf i).toNat)
            case atStart => exact ⟨0, F0, Nat.zero_le _, rfl, HLV15.out, fun _ h => .inl h, Keep.refl _ _⟩
            case round =>
              obtain ⟨k, F, hk, rfl, hlv, hF, hkp⟩ := hrel
              have HLK := Lib.hid hlv
              have HFK := Lib.hid hF
              have HKP := Lib.hid hkp
              have HSK := Lib.hid (HSE.out.keep hkp HROW.out)
              clear hlv hF
              by_cases hlt : k < es.length
              · obtain ⟨b, off, rfl, -, hb, hc⟩ := HSK.out.at (i := k) (by simpa using hlt)
                have hr := hc k es[k].row (by simp [hlt])
                have c0 : wr.cell? ⟨b, off + k * 4, none⟩ = some (.int .i64 es[k].kind) := hr 0 _ rfl
                have c1 : wr.cell? ⟨b, off + k * 4 + 1, none⟩ = some (.string es[k].party) := hr 1 _ rfl
                have c2 : wr.cell? ⟨b, off + k * 4 + 2, none⟩ = some (.int .i64 es[k].day) := hr 2 _ rfl
                have c3 : wr.cell? ⟨b, off + k * 4 + 3, none⟩ = some (.int .i64 es[k].amt) := hr 3 _ rfl
                have HT := Lib.hid (onL_take (Lf.new t.cr) es k hlt)
                have hz := HAT.out k hlt
                have hg : (onL (Lf.new t.cr) (es.take k)).good t.cr := lifeOf_good t.cr (es.take k)
                have hln := lifeOf_len t.cr (es.take k)
                have hln' : (onL (Lf.new t.cr) (es.take k)).evs.length ≤ 9 ∧ (onL (Lf.new t.cr) (es.take k)).paid.length ≤ 9 := by
                  have h1 : (es.take k).length ≤ 9 := by have := HE9.out; simp; omega
                  exact ⟨Nat.le_trans hln.1 h1, Nat.le_trans hln.2 h1⟩
                have DO := Lib.hid (doP_any bk _ F es[k] wr HLK.out hg.s0 hg.s7 (by omega) (by omega))
                unfold Ev.cells at DO
                clear hr hc hg hln hln' hkp
                generalize hx : es[k] = ev at *
                generalize onL (Lf.new t.cr) (es.take k) = lk at *
                generalize lk.step ev = st at *
                obtain ⟨cd, l1⟩ := st
                simp only at hz DO HT
                subst hz
                clear hx
                go_wp2_with (first
                  | ((with_reducible refine DO.out.mono ?_); rintro e w16 ⟨rfl, hk16, F16, hl16, hF16⟩; have HK16 := Lib.hid hk16; have HL16 := Lib.hid hl16; have HF16 := Lib.hid hF16; clear hk16 hl16 hF16)
                  | fail)
                go_roundw
                case rel => exact ⟨k + 1, F16, by omega, by go_num, by rw [HT.out]; exact HL16.out, fun b hb => (HF16.out b hb).elim (HFK.out b) (fun h => .inr (Nat.le_trans HKP.out.size h)), HKP.out.trans HK16.out (fun i hi h => (HFK.out i h).resolve_right (by omega))⟩
                case measure => (simp [intOf]) <;> omega
              · have hkl : k = es.length := by omega
                have HLE : Hid (Lv wr 74 F bk lz) := Lib.hid (by have := HLK.out; rw [List.take_of_length_le (by omega), HEND.out] at this; exact this)
                have hxk := HKP.out.blk HX15.out (fun h => by have := HF6.out _ h; have := lt_blk HX.out; omega)
                have HXK := Lib.hid hxk
                obtain ⟨r0, r1, r2, r3⟩ := tm_load hxk
                have HBW : Hid (Below w0.heap.size w0 wr) := Lib.hid (HKP.out.behind HBX.out HBX.out.size (fun b hlt h => by have := HF6.out b h; omega))
                have OW := Lib.hid (fun W p (h : Below wr.heap.size wr W) => owes_six bk lz F p W (HLE.out.below h) HLZ.out.1)
                have HST := Lib.hid (fun W (h : Below wr.heap.size wr W) => state_six bk lz F W (HLE.out.below h) HLZ.out.1)
                have HH := Lib.hid (fun W (h : Below wr.heap.size wr W) => hist_any bk lz F W (HLE.out.below h) (by rw [HLZ.out.2]; have := HE9.out; omega))
                have HSM := Lib.hid (fun W (h : Below wr.heap.size wr W) v u (hv : Sl W 4 v (es.map Ev.row)) (hu : Sl W 4 u (es.map Ev.row)) => show Calls Try.prog 22 #[v, u] W (RetB W true) from by have h9 := refSame34_any es es v u W hv hu; rw [decide_eq_true rfl] at h9; exact h9)
                rw [HLZ.out.2] at HH
                clear hkl hkp hxk
                go_wp2_with (first
                  | ((with_reducible refine (OW.out _ _ (Below.refl _ _)).mono ?_); rintro e w20 ⟨rfl, hb20⟩; have HB20 := Lib.hid hb20; obtain ⟨r0, r1, r2, r3⟩ := tm_load (Sc.blk hb20 (lt_blk HXK.out) HXK.out); clear hb20)
                  | ((with_reducible refine (OW.out _ _ HB20.out).mono ?_); rintro e w21 ⟨rfl, hb21⟩; have HB20 := Lib.hid (below_then HB20.out hb21); obtain ⟨r0, r1, r2, r3⟩ := tm_load (Sc.blk HB20.out (lt_blk HXK.out) HXK.out); clear hb21)
                  | ((with_reducible refine (HST.out _ HB20.out).mono ?_); rintro e w22 ⟨rfl, hb22⟩; have HB20 := Lib.hid (below_then HB20.out hb22); clear hb22)
                  | ((with_reducible refine (HH.out _ HB20.out).mono ?_); rintro e w23 ⟨vh, rfl, hown23, hb23⟩; have HB20 := Lib.hid (below_then HB20.out hb23); have HSH := Lib.hid (own_evs hown23 rfl); clear hb23 hown23)
                  | ((with_reducible refine (HSM.out _ HB20.out _ _ HSH.out (HSK.out.below HB20.out (Nat.le_refl _))).mono ?_); rintro e w24 ⟨rfl, hb24⟩; have HB20 := Lib.hid (below_then HB20.out hb24); clear hb24)
                  | fail)
                go_ret
                exact retB rfl (HB0.out.trans ((HBW.out.trans (HB20.out.mono HBW.out.size)).mono HB0.out.size))
        · cases refused
          · have HWAY := Lib.hid (way_goes HWIN.out false false (by rw [hcf]; rfl))
            have te : t.con.toList.isEmpty = true := hcf
            clear hcf
            go_wp2_with (first
              | ((with_reducible refine (CR.out _).mono ?_); rintro e w4 ⟨rfl, hb4⟩; have HX1 := Lib.hid (Sc.blk hb4 (lt_blk HX1.out) HX1.out); have HD1 := Lib.hid (Sc.blk hb4 (lt_blk HD1.out) HD1.out); have HBEL := Lib.hid (below_then HBEL.out hb4); clear hb4)
              | (refine load_tm (.tmp 4) w.heap.size t rfl rfl HX1.out ?_)
              | ((with_reducible refine (NW.out _).mono ?_); rintro e w6 ⟨bk, rfl, hb6, F0, hlv6, hF6⟩; have HX6 := Lib.hid (Sc.blk hb6 (lt_blk HX1.out) HX1.out); have HD6 := Lib.hid (Sc.blk hb6 (lt_blk HD1.out) HD1.out); have HF6 : Hid (∀ k, F0 k → w0.heap.size ≤ k) := Lib.hid (fun k hk => Nat.le_trans HBEL.out.size (hF6 k hk)); have HBEL := Lib.hid (below_then HBEL.out hb6); have HLV6 := Lib.hid hlv6; obtain ⟨x0, x1, x2, x3⟩ := tm_load HX6.out; clear hb6 hlv6 hF6)
              | fail)
            go_quiet (fail)
            obtain ⟨w7, hw7⟩ : ∃ x, x = w6.drewN nq := ⟨_, rfl⟩
            have HB7 : Hid (Below w6.heap.size w6 w7) := Lib.hid (hw7 ▸ below_drewN (Below.refl _ _) nq)
            rw [← hw7]
            have RD : Hid (∀ W, Below w6.heap.size w6 W → WReads t d0 d1 d2 d3 d4 d5 w.heap.size W) := Lib.hid (fun W h => reads_of (Sc.blk h (lt_blk HX6.out) HX6.out) (Sc.blk h (lt_blk HD6.out) HD6.out))
            clear hw7 x0 x1 x2 x3
            have HR := RD.out _ HB7.out
            obtain ⟨q0, q1, q2, q3, z0, z1, z2, z3, z4, z5⟩ := HR
            have HR := RD.out _ (bl_alloc HB7.out (.cells #[.int .i64 0, .string t.iss, .int .i64 d0, .int .i64 0] 40))
            obtain ⟨r0, r1, r2, r3, y0, y1, y2, y3, y4, y5⟩ := HR
            have HO8 : Hid ((w7.alloc (.cells #[.int .i64 0, .string t.iss, .int .i64 d0, .int .i64 0] 40)).ownsRow w6.heap.size 40 4 (.slice (some ⟨w7.heap.size, 0, none⟩) 1 1) 1 [.int .i64 0, .string t.iss, .int .i64 d0, .int .i64 0]) := Lib.hid (lit_own (n := 1) (sz := 4) HB7.out.size (by simp) (by simp [maxLen]))
            have HR := RD.out _ (bl_alloc (bl_alloc HB7.out (.cells #[.int .i64 0, .string t.iss, .int .i64 d0, .int .i64 0] 40)) (.cells #[.int .i64 2, .string t.ben, .int .i64 d2, .int .i64 am] 40))
            obtain ⟨p0, p1, p2, p3, u0, u1, u2, u3, u4, u5⟩ := HR
            go_wp2_with (first
              | ((with_reducible refine wpl_app (m := 1) (w := (((w7.alloc (.cells #[.int .i64 0, .string t.iss, .int .i64 d0, .int .i64 0] 40)).alloc (.cells #[.int .i64 2, .string t.ben, .int .i64 d2, .int .i64 am] 40)).alloc (.cells #[.int .i64 2, .string t.ben, .int .i64 d2, .int .i64 am] 40))) (b := w7.heap.size + 1 + 1) (cs := #[.int .i64 2, .string t.ben, .int .i64 d2, .int .i64 am]) ?_ ?_ ?_ Try.underlying24 HI.out.1 HI.out.2.1 HI.out.2.2.1 HI.out.2.2.2 rfl (by decide) ((HO8.out.alloc (.cells #[.int .i64 2, .string t.ben, .int .i64 d2, .int .i64 am] 40)).alloc (.cells #[.int .i64 2, .string t.ben, .int .i64 d2, .int .i64 am] 40)) (at_size (heap_alloc_new ((w7.alloc (.cells #[.int .i64 0, .string t.iss, .int .i64 d0, .int .i64 0] 40)).alloc (.cells #[.int .i64 2, .string t.ben, .int .i64 d2, .int .i64 am] 40)) (.cells #[.int .i64 2, .string t.ben, .int .i64 d2, .int .i64 am] 40)) (by simp)) rfl (ev_lits _ (by simp [Value.oneCell'])) (by simp [maxLen]) (by omega) (bl_alloc (bl_alloc (bl_alloc HB7.out (.cells #[.int .i64 0, .string t.iss, .int .i64 d0, .int .i64 0] 40)) (.cells #[.int .i64 2, .string t.ben, .int .i64 d2, .int .i64 am] 40)) (.cells #[.int .i64 2, .string t.ben, .int .i64 d2, .int .i64 am] 40)).size ?_); rfl; rfl; rfl; intro v11 w11 hown11 hgrow11 hwho11; have HB11 := Lib.hid ((bl_alloc (bl_alloc (bl_alloc HB7.out (.cells #[.int .i64 0, .string t.iss, .int .i64 d0, .int .i64 0] 40)) (.cells #[.int .i64 2, .string t.ben, .int .i64 d2, .int .i64 am] 40)) (.cells #[.int .i64 2, .string t.ben, .int .i64 d2, .int .i64 am] 40)).grown hgrow11 (bl_alloc (bl_alloc (bl_alloc HB7.out (.cells #[.int .i64 0, .string t.iss, .int .i64 d0, .int .i64 0] 40)) (.cells #[.int .i64 2, .string t.ben, .int .i64 d2, .int .i64 am] 40)) (.cells #[.int .i64 2, .string t.ben, .int .i64 d2, .int .i64 am] 40)).size (fun k hk => (((HO8.out.alloc (.cells #[.int .i64 2, .string t.ben, .int .i64 d2, .int .i64 am] 40)).alloc (.cells #[.int .i64 2, .string t.ben, .int .i64 d2, .int .i64 am] 40)).lt k hk).1)); have HO11 := Lib.hid hown11; have HR := RD.out _ HB11.out; obtain ⟨r0, r1, r2, r3, y0, y1, y2, y3, y4, y5⟩ := HR; clear hgrow11 hown11 hwho11)
              | ((with_reducible refine wpl_app (m := 2) (w := (w11.alloc (.cells #[.int .i64 4, .string t.iss, .int .i64 d3, .int .i64 0, .int .i64 5, .string t.iss, .int .i64 d4, .int .i64 0] 40))) (b := w11.heap.size) (cs := #[.int .i64 4, .string t.iss, .int .i64 d3, .int .i64 0, .int .i64 5, .string t.iss, .int .i64 d4, .int .i64 0]) ?_ ?_ ?_ Try.underlying24 HI.out.1 HI.out.2.1 HI.out.2.2.1 HI.out.2.2.2 rfl (by decide) (HO11.out.alloc (.cells #[.int .i64 4, .string t.iss, .int .i64 d3, .int .i64 0, .int .i64 5, .string t.iss, .int .i64 d4, .int .i64 0] 40)) (at_size (heap_alloc_new w11 (.cells #[.int .i64 4, .string t.iss, .int .i64 d3, .int .i64 0, .int .i64 5, .string t.iss, .int .i64 d4, .int .i64 0] 40)) (by simp)) rfl (ev_lits _ (by simp [Value.oneCell'])) (by simp [maxLen]) (by omega) (bl_alloc HB11.out (.cells #[.int .i64 4, .string t.iss, .int .i64 d3, .int .i64 0, .int .i64 5, .string t.iss, .int .i64 d4, .int .i64 0] 40)).size ?_); rfl; rfl; rfl; intro v13 w13 hown13 hgrow13 hwho13; have HB13 := Lib.hid ((bl_alloc HB11.out (.cells #[.int .i64 4, .string t.iss, .int .i64 d3, .int .i64 0, .int .i64 5, .string t.iss, .int .i64 d4, .int .i64 0] 40)).grown hgrow13 (bl_alloc HB11.out (.cells #[.int .i64 4, .string t.iss, .int .i64 d3, .int .i64 0, .int .i64 5, .string t.iss, .int .i64 d4, .int .i64 0] 40)).size (fun k hk => ((HO11.out.alloc (.cells #[.int .i64 4, .string t.iss, .int .i64 d3, .int .i64 0, .int .i64 5, .string t.iss, .int .i64 d4, .int .i64 0] 40)).lt k hk).1)); have HO13 := Lib.hid hown13; have HR := RD.out _ HB13.out; obtain ⟨r0, r1, r2, r3, y0, y1, y2, y3, y4, y5⟩ := HR; clear hgrow13 hown13 hwho13)
              | ((with_reducible refine wpl_app (m := 1) (w := (w13.alloc (.cells #[.int .i64 6, .string t.app, .int .i64 d5, .int .i64 0] 40))) (b := w13.heap.size) (cs := #[.int .i64 6, .string t.app, .int .i64 d5, .int .i64 0]) ?_ ?_ ?_ Try.underlying24 HI.out.1 HI.out.2.1 HI.out.2.2.1 HI.out.2.2.2 rfl (by decide) (HO13.out.alloc (.cells #[.int .i64 6, .string t.app, .int .i64 d5, .int .i64 0] 40)) (at_size (heap_alloc_new w13 (.cells #[.int .i64 6, .string t.app, .int .i64 d5, .int .i64 0] 40)) (by simp)) rfl (ev_lits _ (by simp [Value.oneCell'])) (by simp [maxLen]) (by omega) (bl_alloc HB13.out (.cells #[.int .i64 6, .string t.app, .int .i64 d5, .int .i64 0] 40)).size ?_); rfl; rfl; rfl; intro v15 w15 hown15 hgrow15 hwho15; have HB15 := Lib.hid ((bl_alloc HB13.out (.cells #[.int .i64 6, .string t.app, .int .i64 d5, .int .i64 0] 40)).grown hgrow15 (bl_alloc HB13.out (.cells #[.int .i64 6, .string t.app, .int .i64 d5, .int .i64 0] 40)).size (fun k hk => ((HO13.out.alloc (.cells #[.int .i64 6, .string t.app, .int .i64 d5, .int .i64 0] 40)).lt k hk).1)); have HO15 := Lib.hid hown15; have HR := RD.out _ HB15.out; obtain ⟨r0, r1, r2, r3, y0, y1, y2, y3, y4, y5⟩ := HR; clear hgrow15 hown15 hwho15)
              | fail)
            generalize hes : wayEs t am d0 d1 d2 d3 d4 d5 false false = es at *
            have HOE : Hid (w15.ownsRow w6.heap.size 40 4 v15 es.length (evCells es)) := Lib.hid (by rw [← hes]; simpa [wayEs, evCells, Ev.row] using HO15.out)
            have HSE := Lib.hid (own_evs HOE.out rfl)
            have HE9 : Hid (es.length ≤ 9) := Lib.hid (by rw [← hes]; simp [wayEs])
            obtain ⟨av, cv, rfl⟩ : ∃ a c, v15 = .slice a es.length c := ownsRow_shape HOE.out
            have hel : (es.length : Int) ≤ 9 := by have := HE9.out; omega
            have HLV15 := Lib.hid (HLV6.out.below HB15.out)
            have HBX := Lib.hid (HBEL.out.trans (HB15.out.mono HBEL.out.size))
            have HX15 := Lib.hid (Sc.blk HB15.out (lt_blk HX6.out) HX6.out)
            clear hes r0 r1 r2 r3 y0 y1 y2 y3 y4 y5 q0 q1 q2 q3 z0 z1 z2 z3 z4 z5
            have HZ := Lib.hid HWAY.out
            obtain ⟨lz, hgo, hlc, hls, hle⟩ := HZ.out
            have HAT := Lib.hid (goes_at es _ _ hgo)
            have HEND := Lib.hid (goes_end es _ _ hgo)
            have HLZ := Lib.hid (And.intro hls hle)
            clear hgo hlc hls hle HWAY HZ
            have HFL : Hid (∀ b, F0 b → b < w6.heap.size) := Lib.hid HLV6.out.lt
            have HROW : Hid (∀ b, (Value.slice av es.length cv).ownBlock = some b → ¬ F0 b) := Lib.hid (fun b hb e => by have := (HOE.out.lt b hb).1; have := HFL.out b e; omega)
            go_loopw [18] (fun i wr => ∃ (k : Nat) (F : Nat → Prop), k ≤ es.length ∧ i = .int .i64 k ∧ Lv wr 74 F bk (onL (Lf.new t.cr) (es.take k)) ∧ (∀ b, F b → F0 b ∨ w15.heap.size ≤ b) ∧ Keep F0 w15 wr) (fun i _ => es.length - (intOf i).toNat)
            case atStart => exact ⟨0, F0, Nat.zero_le _, rfl, HLV15.out, fun _ h => .inl h, Keep.refl _ _⟩
            case round =>
              obtain ⟨k, F, hk, rfl, hlv, hF, hkp⟩ := hrel
              have HLK := Lib.hid hlv
              have HFK := Lib.hid hF
              have HKP := Lib.hid hkp
              have HSK := Lib.hid (HSE.out.keep hkp HROW.out)
              clear hlv hF
              by_cases hlt : k < es.length
              · obtain ⟨b, off, rfl, -, hb, hc⟩ := HSK.out.at (i := k) (by simpa using hlt)
                have hr := hc k es[k].row (by simp [hlt])
                have c0 : wr.cell? ⟨b, off + k * 4, none⟩ = some (.int .i64 es[k].kind) := hr 0 _ rfl
                have c1 : wr.cell? ⟨b, off + k * 4 + 1, none⟩ = some (.string es[k].party) := hr 1 _ rfl
                have c2 : wr.cell? ⟨b, off + k * 4 + 2, none⟩ = some (.int .i64 es[k].day) := hr 2 _ rfl
                have c3 : wr.cell? ⟨b, off + k * 4 + 3, none⟩ = some (.int .i64 es[k].amt) := hr 3 _ rfl
                have HT := Lib.hid (onL_take (Lf.new t.cr) es k hlt)
                have hz := HAT.out k hlt
                have hg : (onL (Lf.new t.cr) (es.take k)).good t.cr := lifeOf_good t.cr (es.take k)
                have hln := lifeOf_len t.cr (es.take k)
                have hln' : (onL (Lf.new t.cr) (es.take k)).evs.length ≤ 9 ∧ (onL (Lf.new t.cr) (es.take k)).paid.length ≤ 9 := by
                  have h1 : (es.take k).length ≤ 9 := by have := HE9.out; simp; omega
                  exact ⟨Nat.le_trans hln.1 h1, Nat.le_trans hln.2 h1⟩
                have DO := Lib.hid (doP_any bk _ F es[k] wr HLK.out hg.s0 hg.s7 (by omega) (by omega))
                unfold Ev.cells at DO
                clear hr hc hg hln hln' hkp
                generalize hx : es[k] = ev at *
                generalize onL (Lf.new t.cr) (es.take k) = lk at *
                generalize lk.step ev = st at *
                obtain ⟨cd, l1⟩ := st
                simp only at hz DO HT
                subst hz
                clear hx
                go_wp2_with (first
                  | ((with_reducible refine DO.out.mono ?_); rintro e w16 ⟨rfl, hk16, F16, hl16, hF16⟩; have HK16 := Lib.hid hk16; have HL16 := Lib.hid hl16; have HF16 := Lib.hid hF16; clear hk16 hl16 hF16)
                  | fail)
                go_roundw
                case rel => exact ⟨k + 1, F16, by omega, by go_num, by rw [HT.out]; exact HL16.out, fun b hb => (HF16.out b hb).elim (HFK.out b) (fun h => .inr (Nat.le_trans HKP.out.size h)), HKP.out.trans HK16.out (fun i hi h => (HFK.out i h).resolve_right (by omega))⟩
                case measure => (simp [intOf]) <;> omega
              · have hkl : k = es.length := by omega
                have HLE : Hid (Lv wr 74 F bk lz) := Lib.hid (by have := HLK.out; rw [List.take_of_length_le (by omega), HEND.out] at this; exact this)
                have hxk := HKP.out.blk HX15.out (fun h => by have := HF6.out _ h; have := lt_blk HX.out; omega)
                have HXK := Lib.hid hxk
                obtain ⟨r0, r1, r2, r3⟩ := tm_load hxk
                have HBW : Hid (Below w0.heap.size w0 wr) := Lib.hid (HKP.out.behind HBX.out HBX.out.size (fun b hlt h => by have := HF6.out b h; omega))
                have OW := Lib.hid (fun W p (h : Below wr.heap.size wr W) => owes_six bk lz F p W (HLE.out.below h) HLZ.out.1)
                have HST := Lib.hid (fun W (h : Below wr.heap.size wr W) => state_six bk lz F W (HLE.out.below h) HLZ.out.1)
                have HH := Lib.hid (fun W (h : Below wr.heap.size wr W) => hist_any bk lz F W (HLE.out.below h) (by rw [HLZ.out.2]; have := HE9.out; omega))
                have HSM := Lib.hid (fun W (h : Below wr.heap.size wr W) v u (hv : Sl W 4 v (es.map Ev.row)) (hu : Sl W 4 u (es.map Ev.row)) => show Calls Try.prog 22 #[v, u] W (RetB W true) from by have h9 := refSame34_any es es v u W hv hu; rw [decide_eq_true rfl] at h9; exact h9)
                rw [HLZ.out.2] at HH
                clear hkl hkp hxk
                go_wp2_with (first
                  | ((with_reducible refine (OW.out _ _ (Below.refl _ _)).mono ?_); rintro e w20 ⟨rfl, hb20⟩; have HB20 := Lib.hid hb20; obtain ⟨r0, r1, r2, r3⟩ := tm_load (Sc.blk hb20 (lt_blk HXK.out) HXK.out); clear hb20)
                  | ((with_reducible refine (OW.out _ _ HB20.out).mono ?_); rintro e w21 ⟨rfl, hb21⟩; have HB20 := Lib.hid (below_then HB20.out hb21); obtain ⟨r0, r1, r2, r3⟩ := tm_load (Sc.blk HB20.out (lt_blk HXK.out) HXK.out); clear hb21)
                  | ((with_reducible refine (HST.out _ HB20.out).mono ?_); rintro e w22 ⟨rfl, hb22⟩; have HB20 := Lib.hid (below_then HB20.out hb22); clear hb22)
                  | ((with_reducible refine (HH.out _ HB20.out).mono ?_); rintro e w23 ⟨vh, rfl, hown23, hb23⟩; have HB20 := Lib.hid (below_then HB20.out hb23); have HSH := Lib.hid (own_evs hown23 rfl); clear hb23 hown23)
                  | ((with_reducible refine (HSM.out _ HB20.out _ _ HSH.out (HSK.out.below HB20.out (Nat.le_refl _))).mono ?_); rintro e w24 ⟨rfl, hb24⟩; have HB20 := Lib.hid (below_then HB20.out hb24); clear hb24)
                  | fail)
                go_ret
                exact retB rfl (HB0.out.trans ((HBW.out.trans (HB20.out.mono HBW.out.size)).mono HB0.out.size))
          · have HWAY := Lib.hid (way_goes HWIN.out false true (by rw [hcf]; rfl))
            have te : t.con.toList.isEmpty = true := hcf
            clear hcf
            go_wp2_with (first
              | ((with_reducible refine (CR.out _).mono ?_); rintro e w4 ⟨rfl, hb4⟩; have HX1 := Lib.hid (Sc.blk hb4 (lt_blk HX1.out) HX1.out); have HD1 := Lib.hid (Sc.blk hb4 (lt_blk HD1.out) HD1.out); have HBEL := Lib.hid (below_then HBEL.out hb4); clear hb4)
              | (refine load_tm (.tmp 4) w.heap.size t rfl rfl HX1.out ?_)
              | ((with_reducible refine (NW.out _).mono ?_); rintro e w6 ⟨bk, rfl, hb6, F0, hlv6, hF6⟩; have HX6 := Lib.hid (Sc.blk hb6 (lt_blk HX1.out) HX1.out); have HD6 := Lib.hid (Sc.blk hb6 (lt_blk HD1.out) HD1.out); have HF6 : Hid (∀ k, F0 k → w0.heap.size ≤ k) := Lib.hid (fun k hk => Nat.le_trans HBEL.out.size (hF6 k hk)); have HBEL := Lib.hid (below_then HBEL.out hb6); have HLV6 := Lib.hid hlv6; obtain ⟨x0, x1, x2, x3⟩ := tm_load HX6.out; clear hb6 hlv6 hF6)
              | fail)
            go_quiet (fail)
            obtain ⟨w7, hw7⟩ : ∃ x, x = w6.drewN nq := ⟨_, rfl⟩
            have HB7 : Hid (Below w6.heap.size w6 w7) := Lib.hid (hw7 ▸ below_drewN (Below.refl _ _) nq)
            rw [← hw7]
            have RD : Hid (∀ W, Below w6.heap.size w6 W → WReads t d0 d1 d2 d3 d4 d5 w.heap.size W) := Lib.hid (fun W h => reads_of (Sc.blk h (lt_blk HX6.out) HX6.out) (Sc.blk h (lt_blk HD6.out) HD6.out))
            clear hw7 x0 x1 x2 x3
            have HR := RD.out _ HB7.out
            obtain ⟨q0, q1, q2, q3, z0, z1, z2, z3, z4, z5⟩ := HR
            have HR := RD.out _ (bl_alloc HB7.out (.cells #[.int .i64 0, .string t.iss, .int .i64 d0, .int .i64 0] 40))
            obtain ⟨r0, r1, r2, r3, y0, y1, y2, y3, y4, y5⟩ := HR
            have HO8 : Hid ((w7.alloc (.cells #[.int .i64 0, .string t.iss, .int .i64 d0, .int .i64 0] 40)).ownsRow w6.heap.size 40 4 (.slice (some ⟨w7.heap.size, 0, none⟩) 1 1) 1 [.int .i64 0, .string t.iss, .int .i64 d0, .int .i64 0]) := Lib.hid (lit_own (n := 1) (sz := 4) HB7.out.size (by simp) (by simp [maxLen]))
            have HR := RD.out _ (bl_alloc (bl_alloc HB7.out (.cells #[.int .i64 0, .string t.iss, .int .i64 d0, .int .i64 0] 40)) (.cells #[.int .i64 2, .string t.ben, .int .i64 d2, .int .i64 am] 40))
            obtain ⟨p0, p1, p2, p3, u0, u1, u2, u3, u4, u5⟩ := HR
            go_wp2_with (first
              | ((with_reducible refine wpl_app (m := 1) (w := (((w7.alloc (.cells #[.int .i64 0, .string t.iss, .int .i64 d0, .int .i64 0] 40)).alloc (.cells #[.int .i64 2, .string t.ben, .int .i64 d2, .int .i64 am] 40)).alloc (.cells #[.int .i64 2, .string t.ben, .int .i64 d2, .int .i64 am] 40))) (b := w7.heap.size + 1 + 1) (cs := #[.int .i64 2, .string t.ben, .int .i64 d2, .int .i64 am]) ?_ ?_ ?_ Try.underlying24 HI.out.1 HI.out.2.1 HI.out.2.2.1 HI.out.2.2.2 rfl (by decide) ((HO8.out.alloc (.cells #[.int .i64 2, .string t.ben, .int .i64 d2, .int .i64 am] 40)).alloc (.cells #[.int .i64 2, .string t.ben, .int .i64 d2, .int .i64 am] 40)) (at_size (heap_alloc_new ((w7.alloc (.cells #[.int .i64 0, .string t.iss, .int .i64 d0, .int .i64 0] 40)).alloc (.cells #[.int .i64 2, .string t.ben, .int .i64 d2, .int .i64 am] 40)) (.cells #[.int .i64 2, .string t.ben, .int .i64 d2, .int .i64 am] 40)) (by simp)) rfl (ev_lits _ (by simp [Value.oneCell'])) (by simp [maxLen]) (by omega) (bl_alloc (bl_alloc (bl_alloc HB7.out (.cells #[.int .i64 0, .string t.iss, .int .i64 d0, .int .i64 0] 40)) (.cells #[.int .i64 2, .string t.ben, .int .i64 d2, .int .i64 am] 40)) (.cells #[.int .i64 2, .string t.ben, .int .i64 d2, .int .i64 am] 40)).size ?_); rfl; rfl; rfl; intro v11 w11 hown11 hgrow11 hwho11; have HB11 := Lib.hid ((bl_alloc (bl_alloc (bl_alloc HB7.out (.cells #[.int .i64 0, .string t.iss, .int .i64 d0, .int .i64 0] 40)) (.cells #[.int .i64 2, .string t.ben, .int .i64 d2, .int .i64 am] 40)) (.cells #[.int .i64 2, .string t.ben, .int .i64 d2, .int .i64 am] 40)).grown hgrow11 (bl_alloc (bl_alloc (bl_alloc HB7.out (.cells #[.int .i64 0, .string t.iss, .int .i64 d0, .int .i64 0] 40)) (.cells #[.int .i64 2, .string t.ben, .int .i64 d2, .int .i64 am] 40)) (.cells #[.int .i64 2, .string t.ben, .int .i64 d2, .int .i64 am] 40)).size (fun k hk => (((HO8.out.alloc (.cells #[.int .i64 2, .string t.ben, .int .i64 d2, .int .i64 am] 40)).alloc (.cells #[.int .i64 2, .string t.ben, .int .i64 d2, .int .i64 am] 40)).lt k hk).1)); have HO11 := Lib.hid hown11; have HR := RD.out _ HB11.out; obtain ⟨r0, r1, r2, r3, y0, y1, y2, y3, y4, y5⟩ := HR; have HSB : Hid (w11.heap[(w7.heap.size + 1)]? = some (.cells #[.int .i64 2, .string t.ben, .int .i64 d2, .int .i64 am] 40 (0, 0))) := Lib.hid (shown_kept hgrow11 (Sc.blk (one_below ((w7.alloc (.cells #[.int .i64 0, .string t.iss, .int .i64 d0, .int .i64 0] 40)).alloc (.cells #[.int .i64 2, .string t.ben, .int .i64 d2, .int .i64 am] 40)) (.cells #[.int .i64 2, .string t.ben, .int .i64 d2, .int .i64 am] 40)) (lt_blk (at_size (heap_alloc_new (w7.alloc (.cells #[.int .i64 0, .string t.iss, .int .i64 d0, .int .i64 0] 40)) (.cells #[.int .i64 2, .string t.ben, .int .i64 d2, .int .i64 am] 40)) (by simp))) (at_size (heap_alloc_new (w7.alloc (.cells #[.int .i64 0, .string t.iss, .int .i64 d0, .int .i64 0] 40)) (.cells #[.int .i64 2, .string t.ben, .int .i64 d2, .int .i64 am] 40)) (by simp))) (own_ne HO8.out (by simp))); obtain ⟨g0, g1, g2, g3⟩ := ev_cells4 HSB.out; clear hgrow11 hown11 hwho11)
              | ((with_reducible refine wpl_app (m := 2) (w := (w11.alloc (.cells #[.int .i64 3, .string t.iss, .int .i64 d2, .int .i64 0, .int .i64 2, .string t.ben, .int .i64 d2, .int .i64 am] 40))) (b := w11.heap.size) (cs := #[.int .i64 3, .string t.iss, .int .i64 d2, .int .i64 0, .int .i64 2, .string t.ben, .int .i64 d2, .int .i64 am]) ?_ ?_ ?_ Try.underlying24 HI.out.1 HI.out.2.1 HI.out.2.2.1 HI.out.2.2.2 rfl (by decide) (HO11.out.alloc (.cells #[.int .i64 3, .string t.iss, .int .i64 d2, .int .i64 0, .int .i64 2, .string t.ben, .int .i64 d2, .int .i64 am] 40)) (at_size (heap_alloc_new w11 (.cells #[.int .i64 3, .string t.iss, .int .i64 d2, .int .i64 0, .int .i64 2, .string t.ben, .int .i64 d2, .int .i64 am] 40)) (by simp)) rfl (ev_lits _ (by simp [Value.oneCell'])) (by simp [maxLen]) (by omega) (bl_alloc HB11.out (.cells #[.int .i64 3, .string t.iss, .int .i64 d2, .int .i64 0, .int .i64 2, .string t.ben, .int .i64 d2, .int .i64 am] 40)).size ?_); rfl; rfl; rfl; intro v12 w12 hown12 hgrow12 hwho12; have HB12 := Lib.hid ((bl_alloc HB11.out (.cells #[.int .i64 3, .string t.iss, .int .i64 d2, .int .i64 0, .int .i64 2, .string t.ben, .int .i64 d2, .int .i64 am] 40)).grown hgrow12 (bl_alloc HB11.out (.cells #[.int .i64 3, .string t.iss, .int .i64 d2, .int .i64 0, .int .i64 2, .string t.ben, .int .i64 d2, .int .i64 am] 40)).size (fun k hk => ((HO11.out.alloc (.cells #[.int .i64 3, .string t.iss, .int .i64 d2, .int .i64 0, .int .i64 2, .string t.ben, .int .i64 d2, .int .i64 am] 40)).lt k hk).1)); have HO12 := Lib.hid hown12; have HR := RD.out _ HB12.out; obtain ⟨r0, r1, r2, r3, y0, y1, y2, y3, y4, y5⟩ := HR; clear hgrow12 hown12 hwho12)
              | ((with_reducible refine wpl_app (m := 2) (w := (w12.alloc (.cells #[.int .i64 4, .string t.iss, .int .i64 d3, .int .i64 0, .int .i64 5, .string t.iss, .int .i64 d4, .int .i64 0] 40))) (b := w12.heap.size) (cs := #[.int .i64 4, .string t.iss, .int .i64 d3, .int .i64 0, .int .i64 5, .string t.iss, .int .i64 d4, .int .i64 0]) ?_ ?_ ?_ Try.underlying24 HI.out.1 HI.out.2.1 HI.out.2.2.1 HI.out.2.2.2 rfl (by decide) (HO12.out.alloc (.cells #[.int .i64 4, .string t.iss, .int .i64 d3, .int .i64 0, .int .i64 5, .string t.iss, .int .i64 d4, .int .i64 0] 40)) (at_size (heap_alloc_new w12 (.cells #[.int .i64 4, .string t.iss, .int .i64 d3, .int .i64 0, .int .i64 5, .string t.iss, .int .i64 d4, .int .i64 0] 40)) (by simp)) rfl (ev_lits _ (by simp [Value.oneCell'])) (by simp [maxLen]) (by omega) (bl_alloc HB12.out (.cells #[.int .i64 4, .string t.iss, .int .i64 d3, .int .i64 0, .int .i64 5, .string t.iss, .int .i64 d4, .int .i64 0] 40)).size ?_); rfl; rfl; rfl; intro v13 w13 hown13 hgrow13 hwho13; have HB13 := Lib.hid ((bl_alloc HB12.out (.cells #[.int .i64 4, .string t.iss, .int .i64 d3, .int .i64 0, .int .i64 5, .string t.iss, .int .i64 d4, .int .i64 0] 40)).grown hgrow13 (bl_alloc HB12.out (.cells #[.int .i64 4, .string t.iss, .int .i64 d3, .int .i64 0, .int .i64 5, .string t.iss, .int .i64 d4, .int .i64 0] 40)).size (fun k hk => ((HO12.out.alloc (.cells #[.int .i64 4, .string t.iss, .int .i64 d3, .int .i64 0, .int .i64 5, .string t.iss, .int .i64 d4, .int .i64 0] 40)).lt k hk).1)); have HO13 := Lib.hid hown13; have HR := RD.out _ HB13.out; obtain ⟨r0, r1, r2, r3, y0, y1, y2, y3, y4, y5⟩ := HR; clear hgrow13 hown13 hwho13)
              | ((with_reducible refine wpl_app (m := 1) (w := (w13.alloc (.cells #[.int .i64 6, .string t.app, .int .i64 d5, .int .i64 0] 40))) (b := w13.heap.size) (cs := #[.int .i64 6, .string t.app, .int .i64 d5, .int .i64 0]) ?_ ?_ ?_ Try.underlying24 HI.out.1 HI.out.2.1 HI.out.2.2.1 HI.out.2.2.2 rfl (by decide) (HO13.out.alloc (.cells #[.int .i64 6, .string t.app, .int .i64 d5, .int .i64 0] 40)) (at_size (heap_alloc_new w13 (.cells #[.int .i64 6, .string t.app, .int .i64 d5, .int .i64 0] 40)) (by simp)) rfl (ev_lits _ (by simp [Value.oneCell'])) (by simp [maxLen]) (by omega) (bl_alloc HB13.out (.cells #[.int .i64 6, .string t.app, .int .i64 d5, .int .i64 0] 40)).size ?_); rfl; rfl; rfl; intro v15 w15 hown15 hgrow15 hwho15; have HB15 := Lib.hid ((bl_alloc HB13.out (.cells #[.int .i64 6, .string t.app, .int .i64 d5, .int .i64 0] 40)).grown hgrow15 (bl_alloc HB13.out (.cells #[.int .i64 6, .string t.app, .int .i64 d5, .int .i64 0] 40)).size (fun k hk => ((HO13.out.alloc (.cells #[.int .i64 6, .string t.app, .int .i64 d5, .int .i64 0] 40)).lt k hk).1)); have HO15 := Lib.hid hown15; have HR := RD.out _ HB15.out; obtain ⟨r0, r1, r2, r3, y0, y1, y2, y3, y4, y5⟩ := HR; clear hgrow15 hown15 hwho15)
              | fail)
            generalize hes : wayEs t am d0 d1 d2 d3 d4 d5 false true = es at *
            have HOE : Hid (w15.ownsRow w6.heap.size 40 4 v15 es.length (evCells es)) := Lib.hid (by rw [← hes]; simpa [wayEs, evCells, Ev.row] using HO15.out)
            have HSE := Lib.hid (own_evs HOE.out rfl)
            have HE9 : Hid (es.length ≤ 9) := Lib.hid (by rw [← hes]; simp [wayEs])
            obtain ⟨av, cv, rfl⟩ : ∃ a c, v15 = .slice a es.length c := ownsRow_shape HOE.out
            have hel : (es.length : Int) ≤ 9 := by have := HE9.out; omega
            have HLV15 := Lib.hid (HLV6.out.below HB15.out)
            have HBX := Lib.hid (HBEL.out.trans (HB15.out.mono HBEL.out.size))
            have HX15 := Lib.hid (Sc.blk HB15.out (lt_blk HX6.out) HX6.out)
            clear hes r0 r1 r2 r3 y0 y1 y2 y3 y4 y5 q0 q1 q2 q3 z0 z1 z2 z3 z4 z5
            have HZ := Lib.hid HWAY.out
            obtain ⟨lz, hgo, hlc, hls, hle⟩ := HZ.out
            have HAT := Lib.hid (goes_at es _ _ hgo)
            have HEND := Lib.hid (goes_end es _ _ hgo)
            have HLZ := Lib.hid (And.intro hls hle)
            clear hgo hlc hls hle HWAY HZ
            have HFL : Hid (∀ b, F0 b → b < w6.heap.size) := Lib.hid HLV6.out.lt
            have HROW : Hid (∀ b, (Value.slice av es.length cv).ownBlock = some b → ¬ F0 b) := Lib.hid (fun b hb e => by have := (HOE.out.lt b hb).1; have := HFL.out b e; omega)
            go_loopw [18] (fun i wr => ∃ (k : Nat) (F : Nat → Prop), k ≤ es.length ∧ i = .int .i64 k ∧ Lv wr 74 F bk (onL (Lf.new t.cr) (es.take k)) ∧ (∀ b, F b → F0 b ∨ w15.heap.size ≤ b) ∧ Keep F0 w15 wr) (fun i _ => es.length - (intOf i).toNat)
            case atStart => exact ⟨0, F0, Nat.zero_le _, rfl, HLV15.out, fun _ h => .inl h, Keep.refl _ _⟩
            case round =>
              obtain ⟨k, F, hk, rfl, hlv, hF, hkp⟩ := hrel
              have HLK := Lib.hid hlv
              have HFK := Lib.hid hF
              have HKP := Lib.hid hkp
              have HSK := Lib.hid (HSE.out.keep hkp HROW.out)
              clear hlv hF
              by_cases hlt : k < es.length
              · obtain ⟨b, off, rfl, -, hb, hc⟩ := HSK.out.at (i := k) (by simpa using hlt)
                have hr := hc k es[k].row (by simp [hlt])
                have c0 : wr.cell? ⟨b, off + k * 4, none⟩ = some (.int .i64 es[k].kind) := hr 0 _ rfl
                have c1 : wr.cell? ⟨b, off + k * 4 + 1, none⟩ = some (.string es[k].party) := hr 1 _ rfl
                have c2 : wr.cell? ⟨b, off + k * 4 + 2, none⟩ = some (.int .i64 es[k].day) := hr 2 _ rfl
                have c3 : wr.cell? ⟨b, off + k * 4 + 3, none⟩ = some (.int .i64 es[k].amt) := hr 3 _ rfl
                have HT := Lib.hid (onL_take (Lf.new t.cr) es k hlt)
                have hz := HAT.out k hlt
                have hg : (onL (Lf.new t.cr) (es.take k)).good t.cr := lifeOf_good t.cr (es.take k)
                have hln := lifeOf_len t.cr (es.take k)
                have hln' : (onL (Lf.new t.cr) (es.take k)).evs.length ≤ 9 ∧ (onL (Lf.new t.cr) (es.take k)).paid.length ≤ 9 := by
                  have h1 : (es.take k).length ≤ 9 := by have := HE9.out; simp; omega
                  exact ⟨Nat.le_trans hln.1 h1, Nat.le_trans hln.2 h1⟩
                have DO := Lib.hid (doP_any bk _ F es[k] wr HLK.out hg.s0 hg.s7 (by omega) (by omega))
                unfold Ev.cells at DO
                clear hr hc hg hln hln' hkp
                generalize hx : es[k] = ev at *
                generalize onL (Lf.new t.cr) (es.take k) = lk at *
                generalize lk.step ev = st at *
                obtain ⟨cd, l1⟩ := st
                simp only at hz DO HT
                subst hz
                clear hx
                go_wp2_with (first
                  | ((with_reducible refine DO.out.mono ?_); rintro e w16 ⟨rfl, hk16, F16, hl16, hF16⟩; have HK16 := Lib.hid hk16; have HL16 := Lib.hid hl16; have HF16 := Lib.hid hF16; clear hk16 hl16 hF16)
                  | fail)
                go_roundw
                case rel => exact ⟨k + 1, F16, by omega, by go_num, by rw [HT.out]; exact HL16.out, fun b hb => (HF16.out b hb).elim (HFK.out b) (fun h => .inr (Nat.le_trans HKP.out.size h)), HKP.out.trans HK16.out (fun i hi h => (HFK.out i h).resolve_right (by omega))⟩
                case measure => (simp [intOf]) <;> omega
              · have hkl : k = es.length := by omega
                have HLE : Hid (Lv wr 74 F bk lz) := Lib.hid (by have := HLK.out; rw [List.take_of_length_le (by omega), HEND.out] at this; exact this)
                have hxk := HKP.out.blk HX15.out (fun h => by have := HF6.out _ h; have := lt_blk HX.out; omega)
                have HXK := Lib.hid hxk
                obtain ⟨r0, r1, r2, r3⟩ := tm_load hxk
                have HBW : Hid (Below w0.heap.size w0 wr) := Lib.hid (HKP.out.behind HBX.out HBX.out.size (fun b hlt h => by have := HF6.out b h; omega))
                have OW := Lib.hid (fun W p (h : Below wr.heap.size wr W) => owes_six bk lz F p W (HLE.out.below h) HLZ.out.1)
                have HST := Lib.hid (fun W (h : Below wr.heap.size wr W) => state_six bk lz F W (HLE.out.below h) HLZ.out.1)
                have HH := Lib.hid (fun W (h : Below wr.heap.size wr W) => hist_any bk lz F W (HLE.out.below h) (by rw [HLZ.out.2]; have := HE9.out; omega))
                have HSM := Lib.hid (fun W (h : Below wr.heap.size wr W) v u (hv : Sl W 4 v (es.map Ev.row)) (hu : Sl W 4 u (es.map Ev.row)) => show Calls Try.prog 22 #[v, u] W (RetB W true) from by have h9 := refSame34_any es es v u W hv hu; rw [decide_eq_true rfl] at h9; exact h9)
                rw [HLZ.out.2] at HH
                clear hkl hkp hxk
                go_wp2_with (first
                  | ((with_reducible refine (OW.out _ _ (Below.refl _ _)).mono ?_); rintro e w20 ⟨rfl, hb20⟩; have HB20 := Lib.hid hb20; obtain ⟨r0, r1, r2, r3⟩ := tm_load (Sc.blk hb20 (lt_blk HXK.out) HXK.out); clear hb20)
                  | ((with_reducible refine (OW.out _ _ HB20.out).mono ?_); rintro e w21 ⟨rfl, hb21⟩; have HB20 := Lib.hid (below_then HB20.out hb21); obtain ⟨r0, r1, r2, r3⟩ := tm_load (Sc.blk HB20.out (lt_blk HXK.out) HXK.out); clear hb21)
                  | ((with_reducible refine (HST.out _ HB20.out).mono ?_); rintro e w22 ⟨rfl, hb22⟩; have HB20 := Lib.hid (below_then HB20.out hb22); clear hb22)
                  | ((with_reducible refine (HH.out _ HB20.out).mono ?_); rintro e w23 ⟨vh, rfl, hown23, hb23⟩; have HB20 := Lib.hid (below_then HB20.out hb23); have HSH := Lib.hid (own_evs hown23 rfl); clear hb23 hown23)
                  | ((with_reducible refine (HSM.out _ HB20.out _ _ HSH.out (HSK.out.below HB20.out (Nat.le_refl _))).mono ?_); rintro e w24 ⟨rfl, hb24⟩; have HB20 := Lib.hid (below_then HB20.out hb24); clear hb24)
                  | fail)
                go_ret
                exact retB rfl (HB0.out.trans ((HBW.out.trans (HB20.out.mono HBW.out.size)).mono HB0.out.size))
end Go.Proofs.Ytjabjfkfoenmlaa.undertakeWay
