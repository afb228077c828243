/- Do of the reference, kind by kind. -/
import Derived.Test.YtjabjfkfoenmlaaDoA34
import Derived.Test.YtjabjfkfoenmlaaRef30
namespace Go.Proofs.Ytjabjfkfoenmlaa.Sc
open Go Go.RowKit Go.ChangeShapes Go.WideShapes Go.ChangeAt
set_option maxRecDepth 100000

theorem stepR_bad {l : Lf} {e : Ev} (h : e.ok = false) : l.stepR e = (1, l) := stepW_bad h
theorem stepR_late {l : Lf} {e : Ev} (h : e.ok = true) (h1 : l.late e = true) : l.stepR e = (6, l) := stepW_late h h1
theorem stepR_cant {l : Lf} {e : Ev} (h : e.ok = true) (h1 : l.late e = false) (h2 : l.can e.kind = false) : l.stepR e = (9, l) := stepW_cant h h1 h2
theorem stepR_other {l : Lf} {e : Ev} (h : e.ok = true) (h1 : l.late e = false) (h2 : l.can e.kind = true) (h3 : ¬ e.party = l.byv e.kind) : l.stepR e = (8, l) := stepW_other h h1 h2 h3
theorem stepR_code {l : Lf} {e : Ev} (h : e.ok = true) (h1 : l.late e = false) (h2 : l.can e.kind = true) (h3 : e.party = l.byv e.kind) (h4 : ¬ (l.turnR e.kind e).1 = 0) : l.stepR e = ((l.turnR e.kind e).1, (l.turnR e.kind e).2) := stepW_code h h1 h2 h3 h4
theorem stepR_done {l : Lf} {e : Ev} (h : e.ok = true) (h1 : l.late e = false) (h2 : l.can e.kind = true) (h3 : e.party = l.byv e.kind) (h4 : (l.turnR e.kind e).1 = 0) : l.stepR e = (0, { (l.turnR e.kind e).2 with evs := (l.turnR e.kind e).2.evs ++ [e] }) := stepW_done h h1 h2 h3 h4
theorem Box.other_cell {w : World} {b c : Nat} (h : ¬ c = b) (o : Nat) (u : Value) : (w.setCell ⟨b, o, none⟩ u).heap[c]? = w.heap[c]? := Below.heap_setCell w _ u c h
def lastDay (l : List Ev) : Int := match l.getLast? with | some x => x.day | none => 0
theorem late_day (l : Lf) (k0 : Int) (k1 : ByteArray) (k2 k3 : Int) : (decide (0 < l.evs.length) && decide (k2 < lastDay l.evs)) = l.late ⟨k0, k1, k2, k3⟩ := by
  unfold Lf.late lastDay
  cases h : l.evs.getLast? with
  | none => rw [List.getLast?_eq_none_iff] at h; simp [h]
  | some x => have : 0 < l.evs.length := by cases h2 : l.evs with | nil => rw [h2] at h; cases h | cons a r => simp
              simp [this]
/-- What the test of the last day reads. -/
theorem late_facts {L : List Ev} {a : Option Addr} {n c : Nat} (w : World) (k2 : Int) (h : w.ownsRow 0 40 4 (.slice a n c) n (evCells L)) (hn : L.length = n) :
    ∃ (bN : Bool) (g jj : Nat) (xd : Int) (late : Bool), (decide ((0 : Int) < (n : Int)) = bN ∧ decide (0 < n) = bN) ∧ (bN = true → a = some ⟨g, 0, none⟩ ∧ g < w.heap.size ∧ w.cell? ⟨g, jj * 4 + 2, none⟩ = some (.int .i64 xd)) ∧ (bN = true → n = jj + 1) ∧ late = (bN && decide (k2 < xd)) ∧ late = (decide (0 < L.length) && decide (k2 < lastDay L)) := by
  subst hn
  by_cases h0 : 0 < L.length
  · obtain ⟨g, x, h1, h2, h3, h4⟩ := last_day h h0
    refine ⟨true, g, L.length - 1, x.day, decide (k2 < x.day), ⟨by simp; omega, by simp [h0]⟩, fun _ => ⟨h1, h3, h4⟩, fun _ => by omega, by simp, ?_⟩
    simp [lastDay, h2, h0]
  · refine ⟨false, 0, 0, 0, false, ⟨decide_eq_false (by omega), decide_eq_false h0⟩, (fun h => by cases h), (fun h => by cases h), by simp, by simp [h0]⟩

set_option maxHeartbeats 4000000 in
theorem doR_k0 (bk : Nat) (l : Lf) (F : Nat → Prop) (k1 : ByteArray) (k2 k3 : Int) (w : World) (h : Lv w 65 F bk l) (hfit : l.fit) (hnp : l.paid.length ≤ 4000) (hnv : l.evs.length ≤ 4000) (hok : Ev.ok ⟨0, k1, k2, k3⟩ = true) (hsz : k1.size ≤ 9223372036854775807) :
    Calls Try.prog 28 #[.pointer (some ⟨bk, 0, none⟩), .agg #[.int .i64 0, .string k1, .int .i64 k2, .int .i64 k3]] w (AfterR w 65 F (l.stepR ⟨0, k1, k2, k3⟩).1 bk (l.stepR ⟨0, k1, k2, k3⟩).2) := by
  obtain ⟨vp, ve, hw⟩ := h
  obtain ⟨i0, hi, hz, hsz1, hby⟩ := info_parts infoEv
  have HI := Lib.hid (And.intro hi (And.intro hz (And.intro hsz1 hby)))
  clear hi hz hsz1 hby
  obtain ⟨i1, hi, hz, hsz1, hby⟩ := info_parts infoDr
  have HID := Lib.hid (And.intro hi (And.intro hz (And.intro hsz1 hby)))
  clear hi hz hsz1 hby
  have HLW := Lib.hid hw
  have HNP := Lib.hid hnp
  have HNV := Lib.hid hnv
  have HFIT := Lib.hid hfit
  have HST := Lib.hid (And.intro hfit.s0 hfit.s7)
  have HOK := Lib.hid hok
  generalize hst : l.stepR ⟨0, k1, k2, k3⟩ = st
  have HSTEP := Lib.hid hst
  have HO := Lib.hid (one_below w (.cells #[.int .i64 0, .string k1, .int .i64 k2, .int .i64 k3] 40))
  have HX1 : Hid ((w.alloc (.cells #[.int .i64 0, .string k1, .int .i64 k2, .int .i64 k3] 40)).heap[w.heap.size]? = some (.cells #[.int .i64 0, .string k1, .int .i64 k2, .int .i64 k3] 40 (0, 0))) := Lib.hid (heap_alloc_new _ _)
  have HLW1 := Lib.hid (hw.below HO.out)
  obtain ⟨n, hn⟩ : ∃ n, n = l.evs.length := ⟨_, rfl⟩
  obtain ⟨av, ca, rfl⟩ : ∃ a c, ve = .slice a n c := by rw [hn]; exact ownsRow_shape hw.evs
  obtain ⟨bN, g, jj, xd, late, hbn, hgx, hjj, hlate⟩ := late_facts w k2 (by have := hw.evs; rw [← hn] at this; exact this) hn.symm
  have HLT : Hid (late = l.late ⟨0, k1, k2, k3⟩) := Lib.hid (hlate.2.trans (late_day l 0 k1 k2 k3))
  have HLATE := Lib.hid hlate.1
  have HN : Hid (bN = true → 1 ≤ n ∧ n ≤ 4000 ∧ n = jj + 1) := Lib.hid (fun h => by have := hjj h; omega)
  have HA : Hid (bN = true → av = some ⟨g, 0, none⟩) := Lib.hid (fun h => (hgx h).1)
  have HXC : Hid (bN = true → ∀ W, Below w.heap.size w W → W.cell? ⟨g, jj * 4 + 2, none⟩ = some (.int .i64 xd)) := Lib.hid (fun h W hb => (hb.cell (p := ⟨g, jj * 4 + 2, none⟩) (hgx h).2.1).trans (hgx h).2.2)
  simp only [Ev.ok, Bool.and_eq_true, decide_eq_true_eq] at hok
  obtain ⟨⟨⟨_, hname⟩, hd1, hd2⟩, ha⟩ := hok
  simp at ha
  have t3 : (k3 != 0) = false := by simp [ha]
  have t1 : decide (k2 < 0) = false := decide_eq_false (by omega)
  have t2 : decide (1048576 < k2) = false := decide_eq_false (by omega)
  have hbn2 : decide ((0 : Int) < (n : Int)) = bN := hbn.1
  have hbn3 : decide (0 < n) = bN := hbn.2
  have NM : Hid (∀ W, Calls Try.prog 30 #[.string k1] W (RetB W true)) := Lib.hid (fun W => hname ▸ refName6_any k1 W hsz)
  clear hst hnp hnv hfit hgx hlate hn hw hjj hname hd1 hd2 ha hbn hsz
  go_enter Try.func28, Try.ntmps28
  go_wp2_with (first | ((with_reducible refine (NM.out _).mono ?_); rintro e w2 ⟨rfl, hb2⟩; have HBB := Lib.hid (below_new hb2); have HX2 := Lib.hid (blk hb2 (lt_blk HX1.out) HX1.out); have HLW2 := Lib.hid (HLW1.out.below hb2); clear hb2; have HB2 : Hid (Box w2 65 bk l vp (.slice av n ca)) := Lib.hid HLW2.out.box; obtain ⟨x0, x1, x2, x3⟩ := ev_cells HX2.out) | fail)
  have HXD : Hid (bN = true → ∀ W, Below w2.drew.heap.size w2.drew W → W.cell? ⟨g, jj * 4 + 2, none⟩ = some (.int .i64 xd)) := Lib.hid (fun h W hb => HXC.out h W (below_then HBB.out (below_undrew hb)))
  clear HXC x0 x1 x2 x3 t1 t2 t3
  refine Any.region_lit (fun
    | 0 => Any.val (.pointer (some ⟨bk, 0, none⟩))
    | 1 => Any.val (.pointer (some ⟨bk, 0, none⟩))
    | 2 => Any.val (.pointer (some ⟨bk, 24, none⟩))
    | 3 => Any.val (.slice av n ca)
    | 4 => Any.val (.int .i64 n)
    | 5 => Any.val (.bool bN)
    | 6 => Any.val (.bool bN)
    | 7 => Any.val (if bN = true then .pointer (some ⟨w.heap.size, 2, none⟩) else undef)
    | 8 => Any.val (if bN = true then .int .i64 k2 else undef)
    | 9 => Any.val (if bN = true then .pointer (some ⟨bk, 0, none⟩) else undef)
    | 10 => Any.val (if bN = true then .pointer (some ⟨bk, 0, none⟩) else undef)
    | 11 => Any.val (if bN = true then .pointer (some ⟨bk, 24, none⟩) else undef)
    | 12 => Any.val (if bN = true then .slice av n ca else undef)
    | 13 => Any.val (if bN = true then .pointer (some ⟨bk, 0, none⟩) else undef)
    | 14 => Any.val (if bN = true then .pointer (some ⟨bk, 0, none⟩) else undef)
    | 15 => Any.val (if bN = true then .pointer (some ⟨bk, 24, none⟩) else undef)
    | 16 => Any.val (if bN = true then .slice av n ca else undef)
    | 17 => Any.val (if bN = true then .int .i64 n else undef)
    | 18 => Any.val (if bN = true then .int .i64 (jj : Int) else undef)
    | 19 => Any.val (if bN = true then .pointer (some ⟨g, jj * 4, none⟩) else undef)
    | 20 => Any.val (if bN = true then .pointer (some ⟨g, jj * 4 + 2, none⟩) else undef)
    | 21 => Any.val (if bN = true then .int .i64 xd else undef)
    | 22 => Any.val (if bN = true then .bool (decide (k2 < xd)) else undef)
    | 23 => Any.val (.bool late)
    | _ => Any.idle) (by kernel_rfl) (by kernel_rfl) (by kernel_rfl) ?_ ?_ ?_
  · intro i _
    match i with
    | 0 => exact Any.lasts_val _
    | 1 => exact Any.lasts_val _
    | 2 => exact Any.lasts_val _
    | 3 => exact Any.lasts_val _
    | 4 => exact Any.lasts_val _
    | 5 => exact Any.lasts_val _
    | 6 => exact Any.lasts_val _
    | 7 => exact Any.lasts_val _
    | 8 => exact Any.lasts_val _
    | 9 => exact Any.lasts_val _
    | 10 => exact Any.lasts_val _
    | 11 => exact Any.lasts_val _
    | 12 => exact Any.lasts_val _
    | 13 => exact Any.lasts_val _
    | 14 => exact Any.lasts_val _
    | 15 => exact Any.lasts_val _
    | 16 => exact Any.lasts_val _
    | 17 => exact Any.lasts_val _
    | 18 => exact Any.lasts_val _
    | 19 => exact Any.lasts_val _
    | 20 => exact Any.lasts_val _
    | 21 => exact Any.lasts_val _
    | 22 => exact Any.lasts_val _
    | 23 => exact Any.lasts_val _
    | n + 24 => exact Any.lasts_idle
  · refine ⟨?_, ?_, ?_, ?_, ?_, ?_, ?_, ?_, ?_, ?_, ?_, ?_, ?_, ?_, ?_, ?_, ?_, ?_, ?_, ?_, ?_, ?_, ?_, ?_, trivial⟩
    · refine Any.owes_plain rfl fun ρ wo hs' hb hc' => ?_
      have h0 : ρ (.tmp 0) = .pointer (some ⟨bk, 0, none⟩) := hs'.old' 0 (by kernel_rfl)
      exact Any.ok_move (Any.post_val hb rfl h0)
    · refine Any.owes_plain rfl fun ρ wo hs' hb hc' => ?_
      have h55 : ρ (.tmp 55) = .pointer (some ⟨bk, 0, none⟩) := hs'.new' 55 0 (by kernel_rfl)
      go_simp
      exact Any.post_val hb rfl rfl
    · refine Any.owes_plain rfl fun ρ wo hs' hb hc' => ?_
      have h56 : ρ (.tmp 56) = .pointer (some ⟨bk, 0, none⟩) := hs'.new' 56 1 (by kernel_rfl)
      go_simp
      exact Any.post_val hb rfl rfl
    · refine Any.owes_plain rfl fun ρ wo hs' hb hc' => ?_
      have h57 : ρ (.tmp 57) = .pointer (some ⟨bk, 24, none⟩) := hs'.new' 57 2 (by kernel_rfl)
      have c0 : wo.cell? ⟨bk, 24, none⟩ = some (.slice av n ca) := cell_blk (blk hb (lt_blk HB2.out) HB2.out) 24
      go_simp
      exact Any.post_val hb rfl rfl
    · refine Any.owes_plain rfl fun ρ wo hs' hb hc' => ?_
      have h58 : ρ (.tmp 58) = .slice av n ca := hs'.new' 58 3 (by kernel_rfl)
      go_simp
      exact Any.post_val hb rfl rfl
    · refine Any.owes_plain rfl fun ρ wo hs' hb hc' => ?_
      have h59 : ρ (.tmp 59) = .int .i64 n := hs'.new' 59 4 (by kernel_rfl)
      go_simp
      exact Any.post_val hb rfl rfl
    · refine Any.owes_plain rfl fun ρ wo hs' hb hc' => ?_
      have h60 : ρ (.tmp 60) = .bool bN := hs'.new' 60 5 (by kernel_rfl)
      exact Any.ok_move (Any.post_val hb rfl h60)
    · refine Any.owes_guard rfl rfl (by kernel_rfl) rfl rfl fun hp ρ wo hs' hb hc' => ?_
      have h3 : ρ (.tmp 3) = .pointer (some ⟨w.heap.size, 0, none⟩) := hs'.old' 3 (by kernel_rfl)
      go_simp
      exact Any.is_mk rfl
    · refine Any.owes_guard rfl rfl (by kernel_rfl) rfl rfl fun hp ρ wo hs' hb hc' => ?_
      have h62 : ρ (.tmp 62) = if bN = true then .pointer (some ⟨w.heap.size, 2, none⟩) else undef := hs'.new' 62 7 (by kernel_rfl)
      rw [if_pos hp] at h62
      have c0 : wo.cell? ⟨w.heap.size, 2, none⟩ = some (.int .i64 k2) := cell_blk (blk hb (lt_blk HX2.out) HX2.out) 2
      go_simp
      exact Any.is_mk rfl
    · refine Any.owes_guard rfl rfl (by kernel_rfl) rfl rfl fun hp ρ wo hs' hb hc' => ?_
      have h0 : ρ (.tmp 0) = .pointer (some ⟨bk, 0, none⟩) := hs'.old' 0 (by kernel_rfl)
      exact Any.ok_move (Any.is_mk h0)
    · refine Any.owes_guard rfl rfl (by kernel_rfl) rfl rfl fun hp ρ wo hs' hb hc' => ?_
      have h64 : ρ (.tmp 64) = if bN = true then .pointer (some ⟨bk, 0, none⟩) else undef := hs'.new' 64 9 (by kernel_rfl)
      rw [if_pos hp] at h64
      go_simp
      exact Any.is_mk rfl
    · refine Any.owes_guard rfl rfl (by kernel_rfl) rfl rfl fun hp ρ wo hs' hb hc' => ?_
      have h65 : ρ (.tmp 65) = if bN = true then .pointer (some ⟨bk, 0, none⟩) else undef := hs'.new' 65 10 (by kernel_rfl)
      rw [if_pos hp] at h65
      go_simp
      exact Any.is_mk rfl
    · refine Any.owes_guard rfl rfl (by kernel_rfl) rfl rfl fun hp ρ wo hs' hb hc' => ?_
      have h66 : ρ (.tmp 66) = if bN = true then .pointer (some ⟨bk, 24, none⟩) else undef := hs'.new' 66 11 (by kernel_rfl)
      rw [if_pos hp] at h66
      have c0 : wo.cell? ⟨bk, 24, none⟩ = some (.slice av n ca) := cell_blk (blk hb (lt_blk HB2.out) HB2.out) 24
      go_simp
      exact Any.is_mk rfl
    · refine Any.owes_guard rfl rfl (by kernel_rfl) rfl rfl fun hp ρ wo hs' hb hc' => ?_
      have h0 : ρ (.tmp 0) = .pointer (some ⟨bk, 0, none⟩) := hs'.old' 0 (by kernel_rfl)
      exact Any.ok_move (Any.is_mk h0)
    · refine Any.owes_guard rfl rfl (by kernel_rfl) rfl rfl fun hp ρ wo hs' hb hc' => ?_
      have h68 : ρ (.tmp 68) = if bN = true then .pointer (some ⟨bk, 0, none⟩) else undef := hs'.new' 68 13 (by kernel_rfl)
      rw [if_pos hp] at h68
      go_simp
      exact Any.is_mk rfl
    · refine Any.owes_guard rfl rfl (by kernel_rfl) rfl rfl fun hp ρ wo hs' hb hc' => ?_
      have h69 : ρ (.tmp 69) = if bN = true then .pointer (some ⟨bk, 0, none⟩) else undef := hs'.new' 69 14 (by kernel_rfl)
      rw [if_pos hp] at h69
      go_simp
      exact Any.is_mk rfl
    · refine Any.owes_guard rfl rfl (by kernel_rfl) rfl rfl fun hp ρ wo hs' hb hc' => ?_
      have h70 : ρ (.tmp 70) = if bN = true then .pointer (some ⟨bk, 24, none⟩) else undef := hs'.new' 70 15 (by kernel_rfl)
      rw [if_pos hp] at h70
      have c0 : wo.cell? ⟨bk, 24, none⟩ = some (.slice av n ca) := cell_blk (blk hb (lt_blk HB2.out) HB2.out) 24
      go_simp
      exact Any.is_mk rfl
    · refine Any.owes_guard rfl rfl (by kernel_rfl) rfl rfl fun hp ρ wo hs' hb hc' => ?_
      have h71 : ρ (.tmp 71) = if bN = true then .slice av n ca else undef := hs'.new' 71 16 (by kernel_rfl)
      rw [if_pos hp] at h71
      go_simp
      exact Any.is_mk rfl
    · refine Any.owes_guard rfl rfl (by kernel_rfl) rfl rfl fun hp ρ wo hs' hb hc' => ?_
      have h72 : ρ (.tmp 72) = if bN = true then .int .i64 n else undef := hs'.new' 72 17 (by kernel_rfl)
      rw [if_pos hp] at h72
      have hn := HN.out hp
      go_simp
      exact Any.is_mk (wrap_in (by omega))
    · refine Any.owes_guard rfl rfl (by kernel_rfl) rfl rfl fun hp ρ wo hs' hb hc' => ?_
      have h67 : ρ (.tmp 67) = if bN = true then .slice av n ca else undef := hs'.new' 67 12 (by kernel_rfl)
      rw [if_pos hp] at h67
      have h73 : ρ (.tmp 73) = if bN = true then .int .i64 (jj : Int) else undef := hs'.new' 73 18 (by kernel_rfl)
      rw [if_pos hp] at h73
      have hn := HN.out hp
      rw [HA.out hp] at h67
      have hlt : jj < n := by omega
      clear hn
      go_simp
      exact Any.is_mk rfl
    · refine Any.owes_guard rfl rfl (by kernel_rfl) rfl rfl fun hp ρ wo hs' hb hc' => ?_
      have h74 : ρ (.tmp 74) = if bN = true then .pointer (some ⟨g, jj * 4, none⟩) else undef := hs'.new' 74 19 (by kernel_rfl)
      rw [if_pos hp] at h74
      go_simp
      exact Any.is_mk rfl
    · refine Any.owes_guard rfl rfl (by kernel_rfl) rfl rfl fun hp ρ wo hs' hb hc' => ?_
      have h75 : ρ (.tmp 75) = if bN = true then .pointer (some ⟨g, jj * 4 + 2, none⟩) else undef := hs'.new' 75 20 (by kernel_rfl)
      rw [if_pos hp] at h75
      have c0 := HXD.out hp wo hb
      go_simp
      exact Any.is_mk rfl
    · refine Any.owes_guard rfl rfl (by kernel_rfl) rfl rfl fun hp ρ wo hs' hb hc' => ?_
      have h63 : ρ (.tmp 63) = if bN = true then .int .i64 k2 else undef := hs'.new' 63 8 (by kernel_rfl)
      rw [if_pos hp] at h63
      have h76 : ρ (.tmp 76) = if bN = true then .int .i64 xd else undef := hs'.new' 76 21 (by kernel_rfl)
      rw [if_pos hp] at h76
      go_simp
      exact Any.is_mk rfl
    · refine Any.owes_plain rfl fun ρ wo hs' hb hc' => ?_
      have h61 : ρ (.tmp 61) = .bool bN := hs'.new' 61 6 (by kernel_rfl)
      have h77 : ρ (.tmp 77) = if bN = true then .bool (decide (k2 < xd)) else undef := hs'.new' 77 22 (by kernel_rfl)
      refine Any.ok_pick h61 (Any.post_val hb rfl ?_)
      rw [HLATE.out]
      cases bN
      · exact hc' _
      · exact h77
  · intro vals w3 hb hk ha
    have h23 : vals 23 = .bool late := hk 23 (by kernel_rfl)
    have hbb := hb
    have HX3 := Lib.hid (blk hbb (lt_blk HX2.out) HX2.out)
    have HLW3 := Lib.hid (HLW2.out.below hbb)
    have HBB := Lib.hid (below_then HBB.out hbb)
    clear hk ha hb hbb
    simp only [Any.putAll]
    go_frame
    simp only [Nat.zero_add, Nat.reduceAdd]
    rw [h23]
    
    cases hlate : late
    · have HLT0 : Hid (l.late ⟨0, k1, k2, k3⟩ = false) := Lib.hid (HLT.out.symm.trans hlate)
      clear hlate
      obtain ⟨x0, x1, x2, x3⟩ := ev_cells HX3.out
      have SB := Lib.hid (by_any bk l vp (.slice av n ca) w3 HLW3.out.box 0 (by decide) (by decide) HST.out.1 HST.out.2)
      obtain ⟨hcb1, hcb2⟩ := can_by l HFIT.out 0 (by decide) (by decide)
      generalize l.who 0 = y at *
      cases hye : y.toList.isEmpty
      · have HCAN : Hid (l.can 0 = true) := Lib.hid (by rw [hcb1, hye]; rfl)
        have HBY : Hid (l.byv 0 = y) := Lib.hid (hcb2 HCAN.out)
        clear hcb1 hcb2
        by_cases hyk : k1 = y
        · have HY : Hid (k1 = l.byv 0) := Lib.hid (hyk.trans HBY.out.symm)
          have tY : (y.toList == k1.toList) = true := str_yes hyk.symm
          clear hyk
          go_wp2_with (first | ((with_reducible refine SB.out.mono ?_); rintro e w4 ⟨rfl, hb4⟩; have HX4 := Lib.hid (blk hb4 (lt_blk HX3.out) HX3.out); have HLW4 := Lib.hid (HLW3.out.below hb4); have HBB := Lib.hid (below_then HBB.out hb4); clear hb4 x0 x1 x2 x3; obtain ⟨x0, x1, x2, x3⟩ := ev_cells HX4.out; have d18 : w4.cell? ⟨bk, 18, none⟩ = some (.int .i64 l.st) := HLW4.out.box.cell 18; have f18 : w4.frozen? ⟨bk, 18, none⟩ = false := free_blk HLW4.out.box 18) | fail)
          clear x0 x1 x2 x3 hye tY
          have HLW5 : Hid (Lw (w4.setCell ⟨bk, 18, none⟩ (.int .i64 1)) 65 F bk ({ l with st := 1 } : Lf) vp (.slice av n ca)) := Lib.hid (lw_cell HLW4.out 18 (.int .i64 1) _ rfl rfl rfl (by decide) (by decide))
          have HKA : Hid (Keep (fun k => k = bk) w (w4.setCell ⟨bk, 18, none⟩ (.int .i64 1))) := Lib.hid ((Keep.of_below HBB.out).trans (keep_cell (F := fun k => k = bk) rfl 18 (.int .i64 1)) (fun _ _ h => h))
          generalize hl5 : ({ l with st := 1 } : Lf) = l5 at *
          have HT : Hid (l.turnR 0 ⟨0, k1, k2, k3⟩ = (0, l5)) := Lib.hid (by rw [← hl5]; rfl)
          clear hl5
          generalize hw5 : w4.setCell ⟨bk, 18, none⟩ (.int .i64 1) = w5 at *
          have HX5 : Hid (w5.heap[w.heap.size]? = some (.cells #[.int .i64 0, .string k1, .int .i64 k2, .int .i64 k3] 40 (0, 0))) := Lib.hid (hw5 ▸ (Box.other_cell (fun e => Nat.lt_irrefl _ (e ▸ HLW.out.lt _ HLW.out.own)) _ _).trans HX4.out)
          have HF5 : Hid (∀ k, F k → F k ∨ w.heap.size ≤ k) := Lib.hid (fun _ h => .inl h)
          clear hw5 d18 f18
          obtain ⟨F5, hF5⟩ : ∃ F5, F5 = F := ⟨_, rfl⟩
          rw [← hF5] at HLW5
          have HF5 : Hid (∀ k, F5 k → F k ∨ w.heap.size ≤ k) := Lib.hid (fun k h => .inl (hF5 ▸ h))
          obtain ⟨vp5, hvp5⟩ : ∃ v, v = vp := ⟨_, rfl⟩
          obtain ⟨ve5, hve5⟩ : ∃ v, v = Value.slice av n ca := ⟨_, rfl⟩
          rw [← hvp5, ← hve5] at HLW5
          clear hF5 hvp5 hve5
          have HBX : Hid (w5.heap[bk]? = some (.cells (l5.cells vp5 ve5) 65 (0, 0))) := Lib.hid HLW5.out.box
          have HNX : Hid (¬ w.heap.size = bk) := Lib.hid (fun e => Nat.lt_irrefl _ (e ▸ HLW.out.lt _ HLW.out.own))
          have HL : Hid (0 + l5.evs.length ≤ maxLen ∧ (0 + l5.evs.length) * 40 ≤ 140737488355328 ∧ 0 + l5.evs.length + 1 ≤ maxLen ∧ (0 + l5.evs.length + 1) * 40 ≤ 140737488355328) := Lib.hid (by have h1 := HNV.out; have h2 := congrArg (fun x => x.2.evs) HT.out; simp only [turnR_evs] at h2; rw [h2] at h1; simp only [maxLen]; omega)
          refine Ord.region_lit (fun
            | 0 => Ord.val (.pointer (some ⟨bk, 0, none⟩))
            | 1 => Ord.own (w5.heap.size) 40 4 (0) ([]) []
            | 2 => Ord.val (.pointer (some ⟨bk, 0, none⟩))
            | 3 => Ord.val (.pointer (some ⟨bk, 0, none⟩))
            | 4 => Ord.val (.pointer (some ⟨bk, 24, none⟩))
            | 5 => Ord.val (ve5)
            | 6 => Ord.own (w5.heap.size) 40 4 (0 + (l5.evs.length)) ([] ++ (evCells l5.evs)) [1]
            | 7 => Ord.val (.agg #[.int .i64 0, .string k1, .int .i64 k2, .int .i64 k3])
            | 8 => Ord.one 40 #[.int .i64 0, .string k1, .int .i64 k2, .int .i64 k3]
            | 9 => Ord.own (w5.heap.size) 40 4 (0 + (l5.evs.length) + 1) ([] ++ (evCells l5.evs) ++ [.int .i64 0, .string k1, .int .i64 k2, .int .i64 k3]) [6]
            | 10 => Ord.val (.pointer (some ⟨bk, 0, none⟩))
            | 11 => Ord.val (.pointer (some ⟨bk, 24, none⟩))
            | 12 => Ord.kept 40 4 (0 + (l5.evs.length) + 1) ([] ++ (evCells l5.evs) ++ [.int .i64 0, .string k1, .int .i64 k2, .int .i64 k3]) (bk) (fun v => l5.cells vp5 v) 65 9
            | _ => Ord.idle) (fun k => k = bk) (by kernel_rfl) (by kernel_rfl) (by kernel_rfl) ?_ ?_ ?_ ?_
          · intro i _
            match i with
            | 0 => exact Ord.lasts_val _
            | 1 => exact Ord.lasts_own _ _ _ _ _ _
            | 2 => exact Ord.lasts_val _
            | 3 => exact Ord.lasts_val _
            | 4 => exact Ord.lasts_val _
            | 5 => exact Ord.lasts_val _
            | 6 => exact Ord.lasts_own _ _ _ _ _ _
            | 7 => exact Ord.lasts_val _
            | 8 => exact Ord.lasts_one _ _
            | 9 => exact Ord.lasts_own _ _ _ _ _ _
            | 10 => exact Ord.lasts_val _
            | 11 => exact Ord.lasts_val _
            | 12 => exact Ord.lasts_kept _ _ _ _ _ _ _ _
            | n + 13 => exact Ord.lasts_idle
          · refine ⟨fun k b _ hh => ?_, fun k b _ hh => ?_, fun k k' b _ _ hne h1 h2 => ?_⟩
            · match k, hh with
              | 0, hh => exact hh.elim
              | 1, hh => exact hh.elim
              | 2, hh => exact hh.elim
              | 3, hh => exact hh.elim
              | 4, hh => exact hh.elim
              | 5, hh => exact hh.elim
              | 6, hh => exact hh.elim
              | 7, hh => exact hh.elim
              | 8, hh => exact hh.elim
              | 9, hh => exact hh.elim
              | 10, hh => exact hh.elim
              | 11, hh => exact hh.elim
              | 12, hh => exact hh
              | m + 13, hh => exact hh.elim
            · match k, hh with
              | 0, hh => exact hh.elim
              | 1, hh => exact hh.elim
              | 2, hh => exact hh.elim
              | 3, hh => exact hh.elim
              | 4, hh => exact hh.elim
              | 5, hh => exact hh.elim
              | 6, hh => exact hh.elim
              | 7, hh => exact hh.elim
              | 8, hh => exact hh.elim
              | 9, hh => exact hh.elim
              | 10, hh => exact hh.elim
              | 11, hh => exact hh.elim
              | 12, hh => exact hh ▸ lt_blk HBX.out
              | m + 13, hh => exact hh.elim
            · have a : (k = 12 ∧ (fun k => k = bk) b) := by
                match k, h1 with
                | 0, hh => exact hh.elim
                | 1, hh => exact hh.elim
                | 2, hh => exact hh.elim
                | 3, hh => exact hh.elim
                | 4, hh => exact hh.elim
                | 5, hh => exact hh.elim
                | 6, hh => exact hh.elim
                | 7, hh => exact hh.elim
                | 8, hh => exact hh.elim
                | 9, hh => exact hh.elim
                | 10, hh => exact hh.elim
                | 11, hh => exact hh.elim
                | 12, hh => exact ⟨rfl, hh⟩
                | m + 13, hh => exact hh.elim
              have a' : (k' = 12 ∧ (fun k => k = bk) b) := by
                match k', h2 with
                | 0, hh => exact hh.elim
                | 1, hh => exact hh.elim
                | 2, hh => exact hh.elim
                | 3, hh => exact hh.elim
                | 4, hh => exact hh.elim
                | 5, hh => exact hh.elim
                | 6, hh => exact hh.elim
                | 7, hh => exact hh.elim
                | 8, hh => exact hh.elim
                | 9, hh => exact hh.elim
                | 10, hh => exact hh.elim
                | 11, hh => exact hh.elim
                | 12, hh => exact ⟨rfl, hh⟩
                | m + 13, hh => exact hh.elim
              rcases a with ⟨rfl, a⟩ <;> rcases a' with ⟨rfl, a'⟩
              all_goals first | exact absurd rfl hne | (exact hne rfl)
          · refine ⟨?_, ?_, ?_, ?_, ?_, ?_, ?_, ?_, ?_, ?_, ?_, ?_, ?_, trivial⟩
            · refine Ord.owes_plain rfl fun ρ Os wo hs' hb hc' => ?_
              have h0 : ρ (.tmp 0) = .pointer (some ⟨bk, 0, none⟩) := hs'.old' 0 (by kernel_rfl)
              exact Any.ok_move (Ord.post_val rfl h0)
            · refine Ord.owes_plain rfl fun ρ Os wo hs' hb hc' => ?_
              go_simp
              exact Ord.post_own0 (show w5.heap.size ≤ wo.heap.size from hb.size) rfl
            · refine Ord.owes_plain rfl fun ρ Os wo hs' hb hc' => ?_
              have h0 : ρ (.tmp 0) = .pointer (some ⟨bk, 0, none⟩) := hs'.old' 0 (by kernel_rfl)
              exact Any.ok_move (Ord.post_val rfl h0)
            · refine Ord.owes_plain rfl fun ρ Os wo hs' hb hc' => ?_
              have h193 : ρ (.tmp 193) = .pointer (some ⟨bk, 0, none⟩) := hs'.val' 193 2 (by kernel_rfl) rfl
              go_simp
              exact Ord.post_val rfl rfl
            · refine Ord.owes_plain rfl fun ρ Os wo hs' hb hc' => ?_
              have h194 : ρ (.tmp 194) = .pointer (some ⟨bk, 0, none⟩) := hs'.val' 194 3 (by kernel_rfl) rfl
              go_simp
              exact Ord.post_val rfl rfl
            · refine Ord.owes_plain rfl fun ρ Os wo hs' hb hc' => ?_
              have h195 : ρ (.tmp 195) = .pointer (some ⟨bk, 24, none⟩) := hs'.val' 195 4 (by kernel_rfl) rfl
              have c0 : wo.cell? ⟨bk, 24, none⟩ = some (ve5) := cell_blk ((hs'.early' 12 (by kernel_rfl) _ rfl).trans HBX.out) 24
              go_simp
              exact Ord.post_val rfl rfl
            · refine Ord.owes_plain rfl fun ρ Os wo hs' hb hc' => ?_
              have h196 : ρ (.tmp 196) = ve5 := hs'.val' 196 5 (by kernel_rfl) rfl
              exact Ord.ok_own_append Try.underlying24 HI.out.1 HI.out.2.1 HI.out.2.2.1 HI.out.2.2.2 rfl (by decide) (hs'.new' 192 1 (by kernel_rfl)) (by rw [h196]; exact src_evs HLW5.out hb (by decide)) (evs_one _) HL.out.1 HL.out.2.1 (show w5.heap.size ≤ wo.heap.size from hb.size) List.mem_cons_self rfl
            · refine Ord.owes_plain rfl fun ρ Os wo hs' hb hc' => ?_
              have h3 : ρ (.tmp 3) = .pointer (some ⟨w.heap.size, 0, none⟩) := hs'.old' 3 (by kernel_rfl)
              have c0 : wo.cell? ⟨w.heap.size, 0, none⟩ = some (.int .i64 0) := cell_blk ((hb.block _ (lt_blk HX5.out) HNX.out).trans HX5.out) 0
              have c1 : wo.cell? ⟨w.heap.size, 1, none⟩ = some (.string k1) := cell_blk ((hb.block _ (lt_blk HX5.out) HNX.out).trans HX5.out) 1
              have c2 : wo.cell? ⟨w.heap.size, 2, none⟩ = some (.int .i64 k2) := cell_blk ((hb.block _ (lt_blk HX5.out) HNX.out).trans HX5.out) 2
              have c3 : wo.cell? ⟨w.heap.size, 3, none⟩ = some (.int .i64 k3) := cell_blk ((hb.block _ (lt_blk HX5.out) HNX.out).trans HX5.out) 3
              go_simp
              exact Ord.post_val rfl rfl
            · refine Ord.owes_plain rfl fun ρ Os wo hs' hb hc' => ?_
              have h198 : ρ (.tmp 198) = .agg #[.int .i64 0, .string k1, .int .i64 k2, .int .i64 k3] := hs'.val' 198 7 (by kernel_rfl) rfl
              go_simp
              exact Ord.post_one rfl
            · refine Ord.owes_plain rfl fun ρ Os wo hs' hb hc' => ?_
              obtain ⟨_, g, hg, hgb, -⟩ := hs'.new' 199 8 (by kernel_rfl)
              exact Ord.ok_own_append Try.underlying24 HI.out.1 HI.out.2.1 HI.out.2.2.1 HI.out.2.2.2 rfl (by decide) (hs'.new' 197 6 (by kernel_rfl)) (by rw [hg]; exact src_block hgb rfl) (by simp [Value.oneCell']) HL.out.2.2.1 HL.out.2.2.2 (show w5.heap.size ≤ wo.heap.size from hb.size) List.mem_cons_self rfl
            · refine Ord.owes_plain rfl fun ρ Os wo hs' hb hc' => ?_
              have h191 : ρ (.tmp 191) = .pointer (some ⟨bk, 0, none⟩) := hs'.val' 191 0 (by kernel_rfl) rfl
              go_simp
              exact Ord.post_val rfl rfl
            · refine Ord.owes_plain rfl fun ρ Os wo hs' hb hc' => ?_
              have h201 : ρ (.tmp 201) = .pointer (some ⟨bk, 0, none⟩) := hs'.val' 201 10 (by kernel_rfl) rfl
              go_simp
              exact Ord.post_val rfl rfl
            · refine Ord.owes_plain rfl fun ρ Os wo hs' hb hc' => ?_
              have h202 : ρ (.tmp 202) = .pointer (some ⟨bk, 24, none⟩) := hs'.val' 202 11 (by kernel_rfl) rfl
              obtain ⟨ρ', hr1, hr2⟩ := hs'.new' 200 9 (by kernel_rfl)
              exact Ord.ok_kept h202 ⟨ρ', ownsRow_base hr1 (Nat.zero_le _), hr2⟩ HBX.out (hs'.here _ rfl) (by rw [Lf.cells_size]; decide) (by decide) (fun _ => rfl) (fun _ => by kernel_rfl) rfl
          · intro vals Os ρs w6 hk hkn hln hap hbd
            obtain ⟨v', r1, r2, r3⟩ := hkn 12 (by kernel_rfl)
            have hbd := hbd 12 (by kernel_rfl)
            have H6 := Lib.hid (lw_evs HLW5.out (hk.mono (G := fun k => k = bk ∨ ve5.ownBlock = some k) (fun _ _ h => .inl h)) ⟨0, k1, k2, k3⟩ (by simpa [evCells, Ev.row] using r1) r2 (by decide))
            have HN6 : Hid (∀ g, v'.ownBlock = some g → F5 g ∨ w5.heap.size ≤ g) := Lib.hid fun g hg => (hbd g ((r3 g).2 (.inr hg))).elim .inr (fun h => .inl (h ▸ HLW5.out.own))
            have HK6 := Lib.hid (hk.mono (G := fun k => k = bk) (fun _ _ h => h))
            clear hkn hln hap hbd r1 r2 r3 hk
            simp only [Any.putAll]
            go_frame
            simp only [Nat.zero_add, Nat.reduceAdd]
            go_wp2_with fail
            go_ret
            rw [← HSTEP.out, stepR_done HOK.out HLT0.out HCAN.out HY.out (by rw [HT.out]), HT.out]
            exact do_endR (Keep.refl (fun k => k = bk) w) HKA.out HF5.out HK6.out H6.out HN6.out
        · have HY : Hid (¬ k1 = l.byv 0) := Lib.hid (fun h => hyk (h.trans HBY.out))
          have tY : (y.toList == k1.toList) = false := str_no (fun h => hyk h.symm)
          clear hyk
          go_wp2_with (first | ((with_reducible refine SB.out.mono ?_); rintro e w4 ⟨rfl, hb4⟩; have HX4 := Lib.hid (blk hb4 (lt_blk HX3.out) HX3.out); have HBB := Lib.hid (below_then HBB.out hb4); clear hb4 x0 x1 x2 x3; obtain ⟨x0, x1, x2, x3⟩ := ev_cells HX4.out) | fail)
          go_ret
          rw [← HSTEP.out, stepR_other HOK.out HLT0.out HCAN.out HY.out]
          exact afterR_same ⟨_, _, HLW.out⟩ HBB.out rfl
      · have HCAN : Hid (l.can 0 = false) := Lib.hid (by rw [hcb1, hye]; rfl)
        clear hcb1 hcb2
        go_wp2_with (first | ((with_reducible refine SB.out.mono ?_); rintro e w4 ⟨rfl, hb4⟩; have HBB := Lib.hid (below_then HBB.out hb4); clear hb4) | fail)
        go_ret
        rw [← HSTEP.out, stepR_cant HOK.out HLT0.out HCAN.out]
        exact afterR_same ⟨_, _, HLW.out⟩ HBB.out rfl
    · have HLT1 : Hid (l.late ⟨0, k1, k2, k3⟩ = true) := Lib.hid (HLT.out.symm.trans hlate)
      clear hlate
      go_wp2_with fail
      go_ret
      rw [← HSTEP.out, stepR_late HOK.out HLT1.out]
      exact afterR_same ⟨_, _, HLW.out⟩ HBB.out rfl
end Go.Proofs.Ytjabjfkfoenmlaa.Sc
