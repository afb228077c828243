/- The reference of layer 30: draws that may be, their sum, the code. -/
import Derived.Test.YtjabjfkfoenmlaaGrow
import Derived.Test.YtjabjfkfoenmlaaMay
import Derived.Test.YtjabjfkfoenmlaaRefA
namespace Go.Proofs.Ytjabjfkfoenmlaa.Sc
open Go Go.RowKit Go.ChangeShapes Go.WideShapes Go.ChangeAt
set_option maxRecDepth 100000

theorem drawsFrom_take (l : List Dr) (k : Nat) (h : k < l.length) (a : Int) : drawsFrom a l = true → drawsFrom a (l.take (k + 1)) = true := by
  induction l generalizing k a with
  | nil => simp at h
  | cons d r ih =>
    intro hh
    simp only [drawsFrom, Bool.and_eq_true] at hh
    cases k with
    | zero => simp [drawsFrom, hh.1]
    | succ k => simp only [List.take_succ_cons, drawsFrom, Bool.and_eq_true]; exact ⟨hh.1, ih k (by simpa using h) _ hh.2⟩

set_option maxHeartbeats 4000000 in
theorem refDraws_any (l : List Dr) (v : Value) (w : World) (hs : Sl w 2 v (l.map Dr.row)) : Calls Try.prog 68 #[v] w (RetB w (draws l)) := by
  have hml : l.length ≤ 9223372036854775807 := by have := hs.len_le; simpa [maxLen] using this
  obtain ⟨a, c, rfl⟩ : ∃ a c, v = .slice a l.length c := by simpa using hs.shape
  have HSL := Lib.hid hs
  clear hs
  go_enter Try.func68, Try.ntmps68
  go_wp2
  go_loopw [3] (fun i wr => ∃ (k : Nat) (pd : Int), k ≤ l.length ∧ i = .int .i64 k ∧ drawsFrom 0 l = drawsFrom pd (l.drop k) ∧ ((k = 0 ∧ pd = 0) ∨ ∃ x, l[k - 1]? = some x ∧ x.day = pd ∧ 0 < k) ∧ 0 ≤ pd ∧ Below w.heap.size w wr) (fun i _ => l.length - (intOf i).toNat)
  case atStart => exact ⟨0, 0, Nat.zero_le _, rfl, rfl, .inl ⟨rfl, rfl⟩, by omega, Below.refl _ _⟩
  case round =>
    obtain ⟨k, pd, hk, rfl, hfrom, hpd, hpd0, hbel⟩ := hrel
    by_cases hlt : k < l.length
    · rw [drawsFrom_drop l k _ hlt] at hfrom
      obtain ⟨b, off, rfl, -, hb, hc⟩ := HSL.out.at (i := k) (by simpa using hlt)
      have hr := hc k l[k].row (by simp [hlt])
      have d0 : wr.cell? ⟨b, off + k * 2, none⟩ = some (.int .i64 l[k].day) := (hbel.cell (p := ⟨b, off + k * 2, none⟩) hb).trans (hr 0 _ rfl)
      have d1 : wr.cell? ⟨b, off + k * 2 + 1, none⟩ = some (.int .i64 l[k].amt) := (hbel.cell (p := ⟨b, off + k * 2 + 1, none⟩) hb).trans (hr 1 _ rfl)
      have HF := Lib.hid hfrom
      have HB := Lib.hid hbel
      have hltn : (k : Int) < (l.length : Int) := by omega
      have HXK : Hid (l[k + 1 - 1]? = some l[k]) := Lib.hid (by simp [hlt])
      by_cases h0 : 0 < k
      · obtain ⟨y, hy, hyd⟩ : ∃ y, l[k - 1]? = some y ∧ y.day = pd := by
          rcases hpd with ⟨h, _⟩ | ⟨y, h1, h2, _⟩
          · omega
          · exact ⟨y, h1, h2⟩
        obtain ⟨j, rfl⟩ : ∃ j, k = j + 1 := ⟨k - 1, by omega⟩
        have hp := hc j y.row (by simp at hy; simp [hy])
        have d2 : wr.cell? ⟨b, off + j * 2, none⟩ = some (.int .i64 pd) := (hbel.cell (p := ⟨b, off + j * 2, none⟩) hb).trans ((hp 0 _ rfl).trans (by rw [hyd]))
        have HF2 : Hid (drOk pd l[j + 1] = true → drawsFrom 0 l = drawsFrom l[j + 1].day (l.drop (j + 1 + 1))) := Lib.hid (fun h => by rw [HF.out, h]; simp)
        have t0 : decide (0 < j + 1) = true := by simp
        clear hr hc hbel hfrom hp hy hyd h0 hpd
        generalize l[j + 1] = x at *
        go_wp2_with fail
        by_cases c1 : x.amt < 1
        · have tc1 : decide (x.amt < 1) = true := decide_eq_true c1
          have C1' := Lib.hid c1
          clear c1
          go_quiet (fail)
          go_wp2
          go_ret
          exact retB (by rw [draws, HF.out]; have := C1'.out; simp [drOk]; omega) (below_drewN HB.out nq)
        have tc1 : decide (x.amt < 1) = false := decide_eq_false c1
        have C1 := Lib.hid c1
        clear c1
        by_cases c2 : 1099511627776 < x.amt
        · have tc2 : decide (1099511627776 < x.amt) = true := decide_eq_true c2
          have C2' := Lib.hid c2
          clear c2
          go_quiet (fail)
          go_wp2
          go_ret
          exact retB (by rw [draws, HF.out]; have := C2'.out; simp [drOk]; omega) (below_drewN HB.out nq)
        have tc2 : decide (1099511627776 < x.amt) = false := decide_eq_false c2
        have C2 := Lib.hid c2
        clear c2
        by_cases c3 : x.day < 0
        · have tc3 : decide (x.day < 0) = true := decide_eq_true c3
          have C3' := Lib.hid c3
          clear c3
          go_quiet (fail)
          go_wp2
          go_ret
          exact retB (by rw [draws, HF.out]; have := C3'.out; simp [drOk]; omega) (below_drewN HB.out nq)
        have tc3 : decide (x.day < 0) = false := decide_eq_false c3
        have C3 := Lib.hid c3
        clear c3
        by_cases c4 : 1048576 < x.day
        · have tc4 : decide (1048576 < x.day) = true := decide_eq_true c4
          have C4' := Lib.hid c4
          clear c4
          go_quiet (fail)
          go_wp2
          go_ret
          exact retB (by rw [draws, HF.out]; have := C4'.out; simp [drOk]; omega) (below_drewN HB.out nq)
        have tc4 : decide (1048576 < x.day) = false := decide_eq_false c4
        have C4 := Lib.hid c4
        clear c4
        by_cases c5 : x.day < pd
        · have tc5 : decide (x.day < pd) = true := decide_eq_true c5
          have C5' := Lib.hid c5
          clear c5
          go_quiet (fail)
          go_wp2
          go_ret
          exact retB (by rw [draws, HF.out]; have := C5'.out; simp [drOk]; omega) (below_drewN HB.out nq)
        have tc5 : decide (x.day < pd) = false := decide_eq_false c5
        have C5 := Lib.hid c5
        clear c5
        go_quiet (fail)
        go_wp2
        go_roundw
        case rel => exact ⟨j + 1 + 1, x.day, by omega, by go_num, HF2.out (by have := C1.out; have := C2.out; have := C3.out; have := C4.out; have := C5.out; simp [drOk]; omega), .inr ⟨x, HXK.out, rfl, by omega⟩, by have := C3.out; omega, below_drewN HB.out nq⟩
        case measure => simp [intOf]; omega
      · have hk0 : k = 0 := by omega
        have HP0 : Hid (pd = 0) := Lib.hid (by rcases hpd with ⟨_, h⟩ | ⟨y, _, _, h⟩; exact h; omega)
        have HF2 : Hid (drOk pd l[k] = true → drawsFrom 0 l = drawsFrom l[k].day (l.drop (k + 1))) := Lib.hid (fun h => by rw [HF.out, h]; simp)
        have t0 : decide (0 < k) = false := decide_eq_false h0
        have t00 : decide (0 < (k : Int)) = false := decide_eq_false (by omega)
        clear hr hc hbel hfrom hpd hk0 h0
        generalize l[k] = x at *
        go_wp2_with fail
        by_cases c1 : x.amt < 1
        · have tc1 : decide (x.amt < 1) = true := decide_eq_true c1
          have C1' := Lib.hid c1
          clear c1
          go_quiet (fail)
          go_wp2
          go_ret
          exact retB (by rw [draws, HF.out]; have := C1'.out; simp [drOk]; omega) (below_drewN HB.out nq)
        have tc1 : decide (x.amt < 1) = false := decide_eq_false c1
        have C1 := Lib.hid c1
        clear c1
        by_cases c2 : 1099511627776 < x.amt
        · have tc2 : decide (1099511627776 < x.amt) = true := decide_eq_true c2
          have C2' := Lib.hid c2
          clear c2
          go_quiet (fail)
          go_wp2
          go_ret
          exact retB (by rw [draws, HF.out]; have := C2'.out; simp [drOk]; omega) (below_drewN HB.out nq)
        have tc2 : decide (1099511627776 < x.amt) = false := decide_eq_false c2
        have C2 := Lib.hid c2
        clear c2
        by_cases c3 : x.day < 0
        · have tc3 : decide (x.day < 0) = true := decide_eq_true c3
          have C3' := Lib.hid c3
          clear c3
          go_quiet (fail)
          go_wp2
          go_ret
          exact retB (by rw [draws, HF.out]; have := C3'.out; have := HP0.out; simp [drOk]; omega) (below_drewN HB.out nq)
        have tc3 : decide (x.day < 0) = false := decide_eq_false c3
        have C3 := Lib.hid c3
        clear c3
        by_cases c4 : 1048576 < x.day
        · have tc4 : decide (1048576 < x.day) = true := decide_eq_true c4
          have C4' := Lib.hid c4
          clear c4
          go_quiet (fail)
          go_wp2
          go_ret
          exact retB (by rw [draws, HF.out]; have := C4'.out; simp [drOk]; omega) (below_drewN HB.out nq)
        have tc4 : decide (1048576 < x.day) = false := decide_eq_false c4
        have C4 := Lib.hid c4
        clear c4
        go_quiet (fail)
        go_wp2
        go_roundw
        case rel => exact ⟨k + 1, x.day, by omega, by go_num, HF2.out (by have := C1.out; have := C2.out; have := C3.out; have := C4.out; have := HP0.out; simp [drOk]; omega), .inr ⟨x, HXK.out, rfl, by omega⟩, by have := C3.out; omega, below_drewN HB.out nq⟩
        case measure => simp [intOf]; omega
    · go_wp2
      go_ret
      exact retB (by rw [draws, hfrom, List.drop_eq_nil_of_le (by omega)]; simp [drawsFrom]; omega) hbel

theorem drawsFrom_mem (l : List Dr) : ∀ a, drawsFrom a l = true → ∀ d ∈ l, 1 ≤ d.amt ∧ d.amt ≤ 1099511627776 := by
  induction l with
  | nil => intro a _ d hd; cases hd
  | cons d r ih =>
    intro a h x hx
    simp only [drawsFrom, drOk, Bool.and_eq_true, decide_eq_true_eq] at h
    rcases List.mem_cons.1 hx with rfl | hx
    · exact ⟨h.1.1.1.1, h.1.1.1.2⟩
    · exact ih _ h.2 x hx
theorem dsum_bd (l : List Dr) (h : ∀ d ∈ l, 1 ≤ d.amt ∧ d.amt ≤ 1099511627776) : 0 ≤ dsum l ∧ dsum l ≤ 1099511627776 * l.length := by
  induction l with
  | nil => simp [dsum]
  | cons d r ih =>
    have h1 := h d List.mem_cons_self
    have h2 := ih (fun x hx => h x (List.mem_cons_of_mem _ hx))
    simp only [dsum, List.length_cons]
    omega
set_option maxHeartbeats 1000000 in
theorem refDrawn_any (l : List Dr) (hd : draws l = true) (v : Value) (w : World) (hs : Sl w 2 v (l.map Dr.row)) : Calls Try.prog 69 #[v] w (Ret w (.int .i64 (dsum l))) := by
  simp only [draws, Bool.and_eq_true, decide_eq_true_eq] at hd
  obtain ⟨hl, hd⟩ := hd
  have hmem := drawsFrom_mem l 0 hd
  have HM := Lib.hid hmem
  have hml : l.length ≤ 9223372036854775807 := by omega
  obtain ⟨a, c, rfl⟩ : ∃ a c, v = .slice a l.length c := by simpa using hs.shape
  have HSL := Lib.hid hs
  clear hs hd hmem
  go_enter Try.func69, Try.ntmps69
  go_wp2
  go_loop [3, 4] (fun s i => ∃ (k : Nat), k ≤ l.length ∧ i = .int .i64 k ∧ s = .int .i64 (dsum (l.take k))) (fun _ i => l.length - (intOf i).toNat)
  case atStart => exact ⟨0, Nat.zero_le _, rfl, rfl⟩
  case round =>
    obtain ⟨k, hk, rfl, rfl⟩ := hrel
    by_cases hlt : k < l.length
    · obtain ⟨b, off, rfl, -, hb, hc⟩ := HSL.out.at (i := k) (by simpa using hlt)
      have d1 : w.cell? ⟨b, off + k * 2 + 1, none⟩ = some (.int .i64 l[k].amt) := hc k l[k].row (by simp [hlt]) 1 _ rfl
      have HS := Lib.hid (dsum_take_succ l k hlt)
      have h2 := HM.out l[k] (List.getElem_mem hlt)
      obtain ⟨h3, h4⟩ := dsum_bd (l.take k) (fun d hd => HM.out d (List.mem_of_mem_take hd))
      rw [List.length_take_of_le (by omega)] at h4
      have h5 : dsum (l.take k) ≤ 4503599627370496 := by omega
      obtain ⟨h6, h7⟩ := h2
      clear hc h4
      generalize l[k].amt = x at *
      generalize dsum (l.take k) = S at *
      go_wp2
      go_round
      case rel => exact ⟨k + 1, by omega, by go_num, by rw [HS.out]⟩
      case measure => simp [intOf]; omega
    · go_wp2
      go_ret
      exact ⟨ret_int (by rw [List.take_of_length_le (by omega)]), Below.refl _ _⟩

set_option maxHeartbeats 4000000 in
theorem refMay30_any (c : Cr) (l : List Dr) (d : Dr) (v : Value) (w : World) (hsl : Sl w 2 v (l.map Dr.row)) (hlen : l.length ≤ 1000000) :
    Calls Try.prog 43 #[.agg c.cells, v, .agg #[.int .i64 d.day, .int .i64 d.amt]] w (Ret w (.int .i64 (mayCode c l d))) := by
  obtain ⟨i0, hi, hz, hsz, hby⟩ := info_parts infoDr
  have HI := Lib.hid (And.intro hi (And.intro hz (And.intro hsz hby)))
  clear hi hz hsz hby
  obtain ⟨a, k, hv⟩ : ∃ a k, v = .slice a l.length k := by simpa using hsl.shape
  obtain ⟨w1, hw1⟩ : ∃ w1, w1 = (w.alloc (.cells c.cells 32)).alloc (.cells #[.int .i64 d.day, .int .i64 d.amt] 62) := ⟨_, rfl⟩
  have HB1 : Hid (Below w.heap.size w w1) := Lib.hid (hw1 ▸ ((Below.refl _ _).alloc (Nat.le_refl _) _).alloc (by simp) _)
  have HC : Hid (w1.heap[w.heap.size]? = some (.cells c.cells 32 (0, 0))) := Lib.hid (hw1 ▸ blk (one_below _ _) (by simp) (heap_alloc_new w (.cells c.cells 32)))
  have HD : Hid (w1.heap[w.heap.size + 1]? = some (.cells #[.int .i64 d.day, .int .i64 d.amt] 62 (0, 0))) := Lib.hid (by rw [hw1]; have := heap_alloc_new (w.alloc (.cells c.cells 32)) (.cells #[.int .i64 d.day, .int .i64 d.amt] 62); simpa using this)
  have HSRC : Hid (∀ W, Below w1.heap.size w1 W → Src W 2 v l.length (drCells l)) := Lib.hid (fun W hb => by
    have := (hsl.below (below_then HB1.out hb) (Nat.le_refl _)).src (dr_rows l) (by decide)
    rw [List.length_map, ← drCells_flat] at this
    exact this)
  have HL : Hid (l.length + 1 ≤ maxLen ∧ (l.length + 1) * 16 ≤ 140737488355328) := Lib.hid (by simp only [maxLen]; omega)
  have RB := Lib.hid (fun W => refBounds_any c W)
  have HV := Lib.hid hv
  have RD := Lib.hid (fun W v h => refDraws_any (l ++ [d]) v W h)
  have HMC : Hid (mayCode c l d = if (c.bnd && draws (l ++ [d])) = false then 1 else if c.expiry < d.day then 11 else if c.part = false ∧ 0 < l.length then 9 else if c.most < dsum (l ++ [d]) then 10 else if c.part = false ∧ d.amt < c.least then 3 else 0) := Lib.hid (by
    unfold mayCode mayArg
    cases c.bnd && draws (l ++ [d]) <;> rfl)
  obtain ⟨code, hcode⟩ : ∃ code, code = mayCode c l d := ⟨_, rfl⟩
  rw [← hcode] at HMC ⊢
  have HLEN := Lib.hid hlen
  clear hsl hcode hlen
  go_enter Try.func43, Try.ntmps43
  go_wp2_with fail
  rw [← hw1]
  have HW1 := Lib.hid hw1
  clear hw1 hv
  refine Any.region_lit (fun
    | 0 => Any.row w1.heap.size 62 2 (0) ([]) []
    | 1 => Any.val (v)
    | 2 => Any.row w1.heap.size 62 2 (l.length) (drCells l) [0]
    | 3 => Any.val (.agg #[.int .i64 d.day, .int .i64 d.amt])
    | 4 => Any.made 62 1 #[.int .i64 d.day, .int .i64 d.amt]
    | 5 => Any.row w1.heap.size 62 2 (l.length + 1) (drCells l ++ [.int .i64 d.day, .int .i64 d.amt]) [2]
    | 6 => Any.row w1.heap.size 62 2 (l.length + 1) (drCells l ++ [.int .i64 d.day, .int .i64 d.amt]) [5]
    | _ => Any.idle) (by kernel_rfl) (by kernel_rfl) (by kernel_rfl) ?_ ?_ ?_
  · intro i _
    match i with
    | 0 => exact Any.lasts_row _ _ _ _ _ _
    | 1 => exact Any.lasts_val _
    | 2 => exact Any.lasts_row _ _ _ _ _ _
    | 3 => exact Any.lasts_val _
    | 4 => exact Any.lasts_made _ _ _
    | 5 => exact Any.lasts_row _ _ _ _ _ _
    | 6 => exact Any.lasts_row _ _ _ _ _ _
    | n + 7 => exact Any.lasts_idle
  · refine ⟨?_, ?_, ?_, ?_, ?_, ?_, ?_, trivial⟩
    · refine Any.owes_plain rfl fun ρ wo hs' hb hc' => ?_
      go_simp
      exact Any.post_new hb (own_empty (show w1.heap.size ≤ wo.heap.size from hb.size)) (one_below _ _) (by intro b hb'; obtain rfl : wo.heap.size = b := Option.some.inj hb'; exact Nat.le_refl _)
    · refine Any.owes_plain rfl fun ρ wo hs' hb hc' => ?_
      have h1 : ρ (.tmp 1) = v := hs'.old' 1 (by kernel_rfl)
      exact Any.ok_move (Any.post_val hb rfl h1)
    · refine Any.owes_plain rfl fun ρ wo hs' hb hc' => ?_
      have h9 : ρ (.tmp 9) = v := hs'.new' 9 1 (by kernel_rfl)
      have h8 : wo.ownsRow w1.heap.size 62 2 (ρ (.tmp 8)) 0 [] := hs'.new' 8 0 (by kernel_rfl)
      have hsrc : Src wo 2 (ρ (.tmp 9)) l.length (drCells l) := by rw [h9]; exact HSRC.out wo (below_undrew hb)
      refine Any.ok_append_own Try.underlying63 HI.out.1 HI.out.2.1 HI.out.2.2.1 HI.out.2.2.2 rfl (by decide) h8 hsrc (drCells_one l) (by have := HL.out.1; omega) (by have := HL.out.2; omega) (show w1.heap.size ≤ wo.heap.size from hb.size) fun v' w' h1 h2 h3 => ?_
      rw [List.nil_append, Nat.zero_add] at h1
      exact Any.post_take hb h1 h2 rfl ⟨_, _, _, rfl⟩ rfl rfl (Nat.le_refl _) h3 (fun b hb => (h8.lt b hb).1)
    · refine Any.owes_plain rfl fun ρ wo hs' hb hc' => ?_
      have h5 : ρ (.tmp 5) = .pointer (some ⟨w.heap.size + 1, 0, none⟩) := hs'.old' 5 (by kernel_rfl)
      have c0 : wo.cell? ⟨w.heap.size + 1, 0, none⟩ = some (.int .i64 d.day) := cell_blk (blk hb (lt_blk HD.out) HD.out) 0
      have c1 : wo.cell? ⟨w.heap.size + 1, 1, none⟩ = some (.int .i64 d.amt) := cell_blk (blk hb (lt_blk HD.out) HD.out) 1
      go_simp
      exact Any.post_val hb rfl rfl
    · refine Any.owes_plain rfl fun ρ wo hs' hb hc' => ?_
      have h11 : ρ (.tmp 11) = .agg #[.int .i64 d.day, .int .i64 d.amt] := hs'.new' 11 3 (by kernel_rfl)
      go_simp
      exact Any.post_new hb ⟨_, rfl, heap_alloc_new _ _⟩ (one_below _ _) (by intro b hb'; obtain rfl : wo.heap.size = b := Option.some.inj hb'; exact Nat.le_refl _)
    · refine Any.owes_plain rfl fun ρ wo hs' hb hc' => ?_
      have h8 : wo.ownsRow w1.heap.size 62 2 (ρ (.tmp 10)) (l.length) (drCells l) := hs'.new' 10 2 (by kernel_rfl)
      obtain ⟨g, hg, hgb⟩ := hs'.new' 12 4 (by kernel_rfl)
      have hsrc : Src wo 2 (ρ (.tmp 12)) 1 [.int .i64 d.day, .int .i64 d.amt] := by rw [hg]; exact src_block hgb rfl
      refine Any.ok_append_own Try.underlying63 HI.out.1 HI.out.2.1 HI.out.2.2.1 HI.out.2.2.2 rfl (by decide) h8 hsrc (by simp [Value.oneCell']) HL.out.1 HL.out.2 (show w1.heap.size ≤ wo.heap.size from hb.size) fun v' w' h1 h2 h3 => ?_
      exact Any.post_take hb h1 h2 rfl ⟨_, _, _, rfl⟩ rfl rfl (Nat.le_refl _) h3 (fun b hb => (h8.lt b hb).1)
    · refine Any.owes_plain rfl fun ρ wo hs' hb hc' => ?_
      have h8 : wo.ownsRow w1.heap.size 62 2 (ρ (.tmp 13)) (l.length + 1) (drCells l ++ [.int .i64 d.day, .int .i64 d.amt]) := hs'.new' 13 5 (by kernel_rfl)
      exact Any.ok_assign (Any.post_pass hb rfl ⟨_, rfl⟩ rfl rfl h8)
  · intro vals w2 hb hk ha
    have h6 : w2.ownsRow w1.heap.size 62 2 (vals 6) (l.length + 1) (drCells l ++ [.int .i64 d.day, .int .i64 d.amt]) := hk 6 (by kernel_rfl)
    have HSL2 : Hid (Sl w2 2 (vals 6) ((l ++ [d]).map Dr.row)) := Lib.hid (own_draws (l := l ++ [d]) (by simpa [drCells, Dr.row] using h6) (by simp))
    have hbb := hb
    have HB2 := Lib.hid (below_then HB1.out hbb)
    have HC := Lib.hid (blk hbb (lt_blk HC.out) HC.out)
    have HD := Lib.hid (blk hbb (lt_blk HD.out) HD.out)
    clear hk ha hb h6 hbb
    simp only [Any.putAll]
    go_frame
    simp only [Nat.zero_add, Nat.reduceAdd]
    generalize vals 6 = v2 at *
    cases hbn : c.bnd
    · rw [hbn] at RB HMC
      have HM1 : Hid (code = 1) := Lib.hid (by rw [HMC.out]; simp)
      clear hbn
      go_wp2_with (first
        | (refine load_cr (.tmp 3) w.heap.size c _ rfl rfl HC.out ?_)
        | ((with_reducible refine (RB.out _).mono ?_); rintro e w3 ⟨rfl, hb3⟩; have HB3 := Lib.hid (below_then HB2.out hb3); clear hb3)
        | fail)
      go_ret
      exact ⟨ret_int HM1.out.symm, HB3.out⟩
    have HBN := Lib.hid hbn
    rw [hbn] at RB HMC
    clear hbn
    cases hdr : draws (l ++ [d])
    · rw [hdr] at RD HMC
      have HM1 : Hid (code = 1) := Lib.hid (by rw [HMC.out]; simp)
      clear hdr
      go_wp2_with (first
        | (refine load_cr (.tmp 3) w.heap.size c _ rfl rfl HC.out ?_)
        | ((with_reducible refine (RB.out _).mono ?_); rintro e w3 ⟨rfl, hb3⟩; have HSL3 := Lib.hid (HSL2.out.below hb3 (Nat.le_refl _)); have HB3 := Lib.hid (below_then HB2.out hb3); clear hb3)
        | ((with_reducible refine (RD.out _ _ HSL3.out).mono ?_); rintro e w4 ⟨rfl, hb4⟩; have HB4 := Lib.hid (below_then HB3.out hb4); clear hb4)
        | fail)
      go_ret
      exact ⟨ret_int HM1.out.symm, HB4.out⟩
    have HDR := Lib.hid hdr
    rw [hdr] at RD HMC
    clear hdr
    simp only [Bool.and_self, Bool.true_eq_false, if_false] at HMC
    have SD := Lib.hid (fun W h => refDrawn_any (l ++ [d]) HDR.out v2 W h)
    have SMO := Lib.hid (fun W => refMost_any c W ((bnd_iff c).1 HBN.out))
    have SLE := Lib.hid (fun W => refLeast_any c W ((bnd_iff c).1 HBN.out))
    generalize dsum (l ++ [d]) = S at *
    generalize c.most = M at *
    generalize c.least = L at *
    obtain rfl := HV.out
    by_cases hx : c.expiry < d.day
    all_goals
      first | have tx : decide (c.expiry < d.day) = true := decide_eq_true hx | have tx : decide (c.expiry < d.day) = false := decide_eq_false hx
      have HXP := Lib.hid hx
      clear hx
    · go_wp2_with (first
        | (refine load_cr (.tmp 3) w.heap.size c _ rfl rfl HC.out ?_)
        | ((with_reducible refine (RB.out _).mono ?_); rintro e w3 ⟨rfl, hb3⟩; have HSL3 := Lib.hid (HSL2.out.below hb3 (Nat.le_refl _)); have HB3 := Lib.hid (below_then HB2.out hb3); have HC3 := Lib.hid (blk hb3 (lt_blk HC.out) HC.out); have HD3 := Lib.hid (blk hb3 (lt_blk HD.out) HD.out); clear hb3)
        | ((with_reducible refine (RD.out _ _ HSL3.out).mono ?_); rintro e w4 ⟨rfl, hb4⟩; have HB4 := Lib.hid (below_then HB3.out hb4); have HC4 := Lib.hid (blk hb4 (lt_blk HC3.out) HC3.out); have HD4 := Lib.hid (blk hb4 (lt_blk HD3.out) HD3.out); clear hb4; have c12 : w4.cell? ⟨w.heap.size, 12, none⟩ = some (.int .i64 c.expiry) := cell_blk HC4.out 12; have e0 : w4.cell? ⟨w.heap.size + 1, 0, none⟩ = some (.int .i64 d.day) := cell_blk HD4.out 0)
        | fail)
      go_ret
      exact ⟨ret_int (by rw [HMC.out, if_pos HXP.out]), HB4.out⟩
    have tpl : ∀ q : Bool, (q && decide (0 < l.length)) = (q && decide (0 < l.length)) := fun _ => rfl
    clear tpl
    by_cases hp : c.part = false ∧ 0 < l.length
    · have HPP := Lib.hid hp
      have t1 : decide (0 < l.length) = true := decide_eq_true hp.2
      have HP1 := Lib.hid hp.1
      clear hp
      go_wp2_with (first
        | (refine load_cr (.tmp 3) w.heap.size c _ rfl rfl HC.out ?_)
        | ((with_reducible refine (RB.out _).mono ?_); rintro e w3 ⟨rfl, hb3⟩; have HSL3 := Lib.hid (HSL2.out.below hb3 (Nat.le_refl _)); have HB3 := Lib.hid (below_then HB2.out hb3); have HC3 := Lib.hid (blk hb3 (lt_blk HC.out) HC.out); have HD3 := Lib.hid (blk hb3 (lt_blk HD.out) HD.out); clear hb3)
        | ((with_reducible refine (RD.out _ _ HSL3.out).mono ?_); rintro e w4 ⟨rfl, hb4⟩; have HB4 := Lib.hid (below_then HB3.out hb4); have HC4 := Lib.hid (blk hb4 (lt_blk HC3.out) HC3.out); have HD4 := Lib.hid (blk hb4 (lt_blk HD3.out) HD3.out); clear hb4; have c12 : w4.cell? ⟨w.heap.size, 12, none⟩ = some (.int .i64 c.expiry) := cell_blk HC4.out 12; have c15 : w4.cell? ⟨w.heap.size, 15, none⟩ = some (.bool false) := (cell_blk HC4.out 15).trans (by rw [Cr.cell15, HP1.out]); have e0 : w4.cell? ⟨w.heap.size + 1, 0, none⟩ = some (.int .i64 d.day) := cell_blk HD4.out 0)
        | fail)
      go_ret
      exact ⟨ret_int (by rw [HMC.out, if_neg (by have := HXP.out; omega), if_pos HPP.out]), HB4.out⟩
    have HNP := Lib.hid (show ¬ (c.part = false ∧ 0 < l.length) from hp)
    have HMC2 : Hid (code = if M < S then 10 else if c.part = false ∧ d.amt < L then 3 else 0) := Lib.hid (by rw [HMC.out, if_neg (by have := HXP.out; omega), if_neg hp])
    clear HMC
    have HMC := HMC2
    have t1 : c.part = false → decide (0 < l.length) = false := fun h => decide_eq_false (fun h2 => hp ⟨h, h2⟩)
    clear hp
    cases hpt : c.part
    · have HP := Lib.hid hpt
      have HP0 := HP
      rw [hpt] at HMC
      have t2 := t1 hpt
      clear t1 hpt
      go_wp2_with (first
        | (refine load_cr (.tmp 3) w.heap.size c _ rfl rfl HC.out ?_)
        | ((with_reducible refine (RB.out _).mono ?_); rintro e w3 ⟨rfl, hb3⟩; have HSL3 := Lib.hid (HSL2.out.below hb3 (Nat.le_refl _)); have HB3 := Lib.hid (below_then HB2.out hb3); have HC3 := Lib.hid (blk hb3 (lt_blk HC.out) HC.out); have HD3 := Lib.hid (blk hb3 (lt_blk HD.out) HD.out); clear hb3)
        | ((with_reducible refine (RD.out _ _ HSL3.out).mono ?_); rintro e w4 ⟨rfl, hb4⟩; have HB4 := Lib.hid (below_then HB3.out hb4); have HSL4 := Lib.hid (HSL3.out.below hb4 (Nat.le_refl _)); have HC4 := Lib.hid (blk hb4 (lt_blk HC3.out) HC3.out); have HD4 := Lib.hid (blk hb4 (lt_blk HD3.out) HD3.out); clear hb4; have c12 : w4.cell? ⟨w.heap.size, 12, none⟩ = some (.int .i64 c.expiry) := cell_blk HC4.out 12; have e0 : w4.cell? ⟨w.heap.size + 1, 0, none⟩ = some (.int .i64 d.day) := cell_blk HD4.out 0; have c15 : w4.cell? ⟨w.heap.size, 15, none⟩ = some (.bool c.part) := cell_blk HC4.out 15; rw [HP.out] at c15)
        | fail)
      clear c12 c15 e0
      refine Any.region_lit (fun
        | 0 => Any.val (v2)
        | 1 => Any.val (.int .i64 S)
        | 2 => Any.val (.agg c.cells)
        | 3 => Any.val (.int .i64 M)
        | 4 => Any.val (.bool (decide (M < S)))
        | _ => Any.idle) (by kernel_rfl) (by kernel_rfl) (by kernel_rfl) ?_ ?_ ?_
      · intro i _
        match i with
        | 0 => exact Any.lasts_val _
        | 1 => exact Any.lasts_val _
        | 2 => exact Any.lasts_val _
        | 3 => exact Any.lasts_val _
        | 4 => exact Any.lasts_val _
        | n + 5 => exact Any.lasts_idle
      · refine ⟨?_, ?_, ?_, ?_, ?_, trivial⟩
        · refine Any.owes_plain rfl fun ρ wo hs' hb hc' => ?_
          have h7 : ρ (.tmp 7) = v2 := hs'.old' 7 (by kernel_rfl)
          exact Any.ok_move (Any.post_val hb rfl h7)
        · refine Any.owes_plain rfl fun ρ wo hs' hb hc' => ?_
          have h35 : ρ (.tmp 35) = v2 := hs'.new' 35 0 (by kernel_rfl)
          have hf := hs'.func 69
          go_simp
          exact (SD.out wo (HSL4.out.below (below_undrew hb) (Nat.le_refl _))).mono fun e w' ⟨he, hb'⟩ => ⟨_, he, Any.post_vals hb rfl rfl hb'⟩
        · refine Any.owes_plain rfl fun ρ wo hs' hb hc' => ?_
          have h3 : ρ (.tmp 3) = .pointer (some ⟨w.heap.size, 0, none⟩) := hs'.old' 3 (by kernel_rfl)
          exact ok_load_cr w.heap.size c _ h3 (blk hb (lt_blk HC4.out) HC4.out) (Any.post_val hb rfl rfl)
        · refine Any.owes_plain rfl fun ρ wo hs' hb hc' => ?_
          have h37 : ρ (.tmp 37) = .agg c.cells := hs'.new' 37 2 (by kernel_rfl)
          have hf := hs'.func 18
          go_simp
          exact (SMO.out wo).mono fun e w' ⟨he, hb'⟩ => ⟨_, he, Any.post_vals hb rfl rfl hb'⟩
        · refine Any.owes_plain rfl fun ρ wo hs' hb hc' => ?_
          have h36 : ρ (.tmp 36) = .int .i64 S := hs'.new' 36 1 (by kernel_rfl)
          have h38 : ρ (.tmp 38) = .int .i64 M := hs'.new' 38 3 (by kernel_rfl)
          go_simp
          exact Any.post_val hb rfl rfl
      · intro vals w5 hb hk ha
        have h4 : vals 4 = .bool (decide (M < S)) := hk 4 (by kernel_rfl)
        have hbb := hb
        have HB5 := Lib.hid (below_then HB4.out hbb)
        have HC5 := Lib.hid (blk hbb (lt_blk HC4.out) HC4.out)
        have HD5 := Lib.hid (blk hbb (lt_blk HD4.out) HD4.out)
        clear hk ha hb hbb
        simp only [Any.putAll]
        go_frame
        simp only [Nat.zero_add, Nat.reduceAdd]
        rw [h4]
        by_cases hL : M < S
        · rw [decide_eq_true hL]
          have HLL := Lib.hid hL
          clear hL
          go_wp2_with fail
          go_ret
          exact ⟨ret_int (by rw [HMC.out, if_pos HLL.out]), HB5.out⟩
        rw [decide_eq_false hL]
        have HLM := Lib.hid (show ¬ M < S from hL)
        clear hL
        go_wp2_with fail
        refine Any.region_lit (fun
          | 0 => Any.val (.pointer (some ⟨w.heap.size, 15, none⟩))
          | 1 => Any.val (.bool c.part)
          | 2 => Any.val (.bool (!c.part))
          | 3 => Any.val (.bool true)
          | 4 => Any.val (.pointer (some ⟨w.heap.size + 1, 1, none⟩))
          | 5 => Any.val (.int .i64 d.amt)
          | 6 => Any.val (.agg c.cells)
          | 7 => Any.val (.int .i64 L)
          | 8 => Any.val (.bool (decide (d.amt < L)))
          | 9 => Any.val (.bool (decide (d.amt < L)))
          | _ => Any.idle) (by kernel_rfl) (by kernel_rfl) (by kernel_rfl) ?_ ?_ ?_
        · intro i _
          match i with
          | 0 => exact Any.lasts_val _
          | 1 => exact Any.lasts_val _
          | 2 => exact Any.lasts_val _
          | 3 => exact Any.lasts_val _
          | 4 => exact Any.lasts_val _
          | 5 => exact Any.lasts_val _
          | 6 => exact Any.lasts_val _
          | 7 => exact Any.lasts_val _
          | 8 => exact Any.lasts_val _
          | 9 => exact Any.lasts_val _
          | n + 10 => exact Any.lasts_idle
        · refine ⟨?_, ?_, ?_, ?_, ?_, ?_, ?_, ?_, ?_, ?_, trivial⟩
          · refine Any.owes_plain rfl fun ρ wo hs' hb hc' => ?_
            have h3 : ρ (.tmp 3) = .pointer (some ⟨w.heap.size, 0, none⟩) := hs'.old' 3 (by kernel_rfl)
            go_simp
            exact Any.post_val hb rfl rfl
          · refine Any.owes_plain rfl fun ρ wo hs' hb hc' => ?_
            have h40 : ρ (.tmp 40) = .pointer (some ⟨w.heap.size, 15, none⟩) := hs'.new' 40 0 (by kernel_rfl)
            have c0 : wo.cell? ⟨w.heap.size, 15, none⟩ = some (.bool c.part) := cell_blk (blk hb (lt_blk HC5.out) HC5.out) 15
            go_simp
            exact Any.post_val hb rfl rfl
          · refine Any.owes_plain rfl fun ρ wo hs' hb hc' => ?_
            have h41 : ρ (.tmp 41) = .bool c.part := hs'.new' 41 1 (by kernel_rfl)
            go_simp
            exact Any.post_val hb rfl rfl
          · refine Any.owes_plain rfl fun ρ wo hs' hb hc' => ?_
            have h42 : ρ (.tmp 42) = .bool (!c.part) := hs'.new' 42 2 (by kernel_rfl)
            rw [HP.out] at h42
            exact Any.ok_move (Any.post_val hb rfl h42)
          · refine Any.owes_on rfl rfl (by kernel_rfl) rfl fun ρ wo hs' hb hc' => ?_
            have h5 : ρ (.tmp 5) = .pointer (some ⟨w.heap.size + 1, 0, none⟩) := hs'.old' 5 (by kernel_rfl)
            go_simp
            exact Any.post_val hb rfl rfl
          · refine Any.owes_on rfl rfl (by kernel_rfl) rfl fun ρ wo hs' hb hc' => ?_
            have h44 : ρ (.tmp 44) = .pointer (some ⟨w.heap.size + 1, 1, none⟩) := hs'.new' 44 4 (by kernel_rfl)
            have c0 : wo.cell? ⟨w.heap.size + 1, 1, none⟩ = some (.int .i64 d.amt) := cell_blk (blk hb (lt_blk HD5.out) HD5.out) 1
            go_simp
            exact Any.post_val hb rfl rfl
          · refine Any.owes_on rfl rfl (by kernel_rfl) rfl fun ρ wo hs' hb hc' => ?_
            have h3 : ρ (.tmp 3) = .pointer (some ⟨w.heap.size, 0, none⟩) := hs'.old' 3 (by kernel_rfl)
            exact ok_load_cr w.heap.size c _ h3 (blk hb (lt_blk HC5.out) HC5.out) (Any.post_val hb rfl rfl)
          · refine Any.owes_on rfl rfl (by kernel_rfl) rfl fun ρ wo hs' hb hc' => ?_
            have h46 : ρ (.tmp 46) = .agg c.cells := hs'.new' 46 6 (by kernel_rfl)
            have hf := hs'.func 21
            go_simp
            exact (SLE.out wo).mono fun e w' ⟨he, hb'⟩ => ⟨_, he, Any.post_vals hb rfl rfl hb'⟩
          · refine Any.owes_on rfl rfl (by kernel_rfl) rfl fun ρ wo hs' hb hc' => ?_
            have h45 : ρ (.tmp 45) = .int .i64 d.amt := hs'.new' 45 5 (by kernel_rfl)
            have h47 : ρ (.tmp 47) = .int .i64 L := hs'.new' 47 7 (by kernel_rfl)
            go_simp
            exact Any.post_val hb rfl rfl
          · refine Any.owes_plain rfl fun ρ wo hs' hb hc' => ?_
            have h43 : ρ (.tmp 43) = .bool true := hs'.new' 43 3 (by kernel_rfl)
            have h48 : ρ (.tmp 48) = .bool (decide (d.amt < L)) := hs'.new' 48 8 (by kernel_rfl)
            go_simp
            exact Any.post_val hb rfl rfl
        · intro vals w6 hb hk ha
          have h9 : vals 9 = .bool (decide (d.amt < L)) := hk 9 (by kernel_rfl)
          have HB6 := Lib.hid (below_then HB5.out hb)
          clear hk ha hb
          simp only [Any.putAll]
          go_frame
          simp only [Nat.zero_add, Nat.reduceAdd]
          rw [h9]
          by_cases hL : d.amt < L
          · rw [decide_eq_true hL]
            have HLL := Lib.hid hL
            clear hL
            go_wp2_with fail
            go_ret
            exact ⟨ret_int (by rw [HMC.out, if_neg (by have := HLM.out; omega), if_pos (by simpa using HLL.out)]), HB6.out⟩
          · rw [decide_eq_false hL]
            have HLL := Lib.hid (show ¬ d.amt < L from hL)
            clear hL
            go_wp2_with fail
            go_ret
            exact ⟨ret_int (by rw [HMC.out, if_neg (by have := HLM.out; omega), if_neg (by have := HLL.out; simp; omega)]), HB6.out⟩
    · have HP := Lib.hid hpt
      have HP0 := HP
      rw [hpt] at HMC
      clear t1 hpt
      go_wp2_with (first
        | (refine load_cr (.tmp 3) w.heap.size c _ rfl rfl HC.out ?_)
        | ((with_reducible refine (RB.out _).mono ?_); rintro e w3 ⟨rfl, hb3⟩; have HSL3 := Lib.hid (HSL2.out.below hb3 (Nat.le_refl _)); have HB3 := Lib.hid (below_then HB2.out hb3); have HC3 := Lib.hid (blk hb3 (lt_blk HC.out) HC.out); have HD3 := Lib.hid (blk hb3 (lt_blk HD.out) HD.out); clear hb3)
        | ((with_reducible refine (RD.out _ _ HSL3.out).mono ?_); rintro e w4 ⟨rfl, hb4⟩; have HB4 := Lib.hid (below_then HB3.out hb4); have HSL4 := Lib.hid (HSL3.out.below hb4 (Nat.le_refl _)); have HC4 := Lib.hid (blk hb4 (lt_blk HC3.out) HC3.out); have HD4 := Lib.hid (blk hb4 (lt_blk HD3.out) HD3.out); clear hb4; have c12 : w4.cell? ⟨w.heap.size, 12, none⟩ = some (.int .i64 c.expiry) := cell_blk HC4.out 12; have e0 : w4.cell? ⟨w.heap.size + 1, 0, none⟩ = some (.int .i64 d.day) := cell_blk HD4.out 0; have c15 : w4.cell? ⟨w.heap.size, 15, none⟩ = some (.bool c.part) := cell_blk HC4.out 15; rw [HP.out] at c15)
        | fail)
      clear c12 c15 e0
      refine Any.region_lit (fun
        | 0 => Any.val (v2)
        | 1 => Any.val (.int .i64 S)
        | 2 => Any.val (.agg c.cells)
        | 3 => Any.val (.int .i64 M)
        | 4 => Any.val (.bool (decide (M < S)))
        | _ => Any.idle) (by kernel_rfl) (by kernel_rfl) (by kernel_rfl) ?_ ?_ ?_
      · intro i _
        match i with
        | 0 => exact Any.lasts_val _
        | 1 => exact Any.lasts_val _
        | 2 => exact Any.lasts_val _
        | 3 => exact Any.lasts_val _
        | 4 => exact Any.lasts_val _
        | n + 5 => exact Any.lasts_idle
      · refine ⟨?_, ?_, ?_, ?_, ?_, trivial⟩
        · refine Any.owes_plain rfl fun ρ wo hs' hb hc' => ?_
          have h7 : ρ (.tmp 7) = v2 := hs'.old' 7 (by kernel_rfl)
          exact Any.ok_move (Any.post_val hb rfl h7)
        · refine Any.owes_plain rfl fun ρ wo hs' hb hc' => ?_
          have h35 : ρ (.tmp 35) = v2 := hs'.new' 35 0 (by kernel_rfl)
          have hf := hs'.func 69
          go_simp
          exact (SD.out wo (HSL4.out.below (below_undrew hb) (Nat.le_refl _))).mono fun e w' ⟨he, hb'⟩ => ⟨_, he, Any.post_vals hb rfl rfl hb'⟩
        · refine Any.owes_plain rfl fun ρ wo hs' hb hc' => ?_
          have h3 : ρ (.tmp 3) = .pointer (some ⟨w.heap.size, 0, none⟩) := hs'.old' 3 (by kernel_rfl)
          exact ok_load_cr w.heap.size c _ h3 (blk hb (lt_blk HC4.out) HC4.out) (Any.post_val hb rfl rfl)
        · refine Any.owes_plain rfl fun ρ wo hs' hb hc' => ?_
          have h37 : ρ (.tmp 37) = .agg c.cells := hs'.new' 37 2 (by kernel_rfl)
          have hf := hs'.func 18
          go_simp
          exact (SMO.out wo).mono fun e w' ⟨he, hb'⟩ => ⟨_, he, Any.post_vals hb rfl rfl hb'⟩
        · refine Any.owes_plain rfl fun ρ wo hs' hb hc' => ?_
          have h36 : ρ (.tmp 36) = .int .i64 S := hs'.new' 36 1 (by kernel_rfl)
          have h38 : ρ (.tmp 38) = .int .i64 M := hs'.new' 38 3 (by kernel_rfl)
          go_simp
          exact Any.post_val hb rfl rfl
      · intro vals w5 hb hk ha
        have h4 : vals 4 = .bool (decide (M < S)) := hk 4 (by kernel_rfl)
        have hbb := hb
        have HB5 := Lib.hid (below_then HB4.out hbb)
        have HC5 := Lib.hid (blk hbb (lt_blk HC4.out) HC4.out)
        have HD5 := Lib.hid (blk hbb (lt_blk HD4.out) HD4.out)
        clear hk ha hb hbb
        simp only [Any.putAll]
        go_frame
        simp only [Nat.zero_add, Nat.reduceAdd]
        rw [h4]
        by_cases hL : M < S
        · rw [decide_eq_true hL]
          have HLL := Lib.hid hL
          clear hL
          go_wp2_with fail
          go_ret
          exact ⟨ret_int (by rw [HMC.out, if_pos HLL.out]), HB5.out⟩
        rw [decide_eq_false hL]
        have HLM := Lib.hid (show ¬ M < S from hL)
        clear hL
        go_wp2_with fail
        refine Any.region_lit (fun
          | 0 => Any.val (.pointer (some ⟨w.heap.size, 15, none⟩))
          | 1 => Any.val (.bool c.part)
          | 2 => Any.val (.bool (!c.part))
          | 3 => Any.val (.bool false)
          | 4 => Any.idle
          | 5 => Any.idle
          | 6 => Any.idle
          | 7 => Any.idle
          | 8 => Any.idle
          | 9 => Any.val (.bool false)
          | _ => Any.idle) (by kernel_rfl) (by kernel_rfl) (by kernel_rfl) ?_ ?_ ?_
        · intro i _
          match i with
          | 0 => exact Any.lasts_val _
          | 1 => exact Any.lasts_val _
          | 2 => exact Any.lasts_val _
          | 3 => exact Any.lasts_val _
          | 4 => exact Any.lasts_idle
          | 5 => exact Any.lasts_idle
          | 6 => exact Any.lasts_idle
          | 7 => exact Any.lasts_idle
          | 8 => exact Any.lasts_idle
          | 9 => exact Any.lasts_val _
          | n + 10 => exact Any.lasts_idle
        · refine ⟨?_, ?_, ?_, ?_, ?_, ?_, ?_, ?_, ?_, ?_, trivial⟩
          · refine Any.owes_plain rfl fun ρ wo hs' hb hc' => ?_
            have h3 : ρ (.tmp 3) = .pointer (some ⟨w.heap.size, 0, none⟩) := hs'.old' 3 (by kernel_rfl)
            go_simp
            exact Any.post_val hb rfl rfl
          · refine Any.owes_plain rfl fun ρ wo hs' hb hc' => ?_
            have h40 : ρ (.tmp 40) = .pointer (some ⟨w.heap.size, 15, none⟩) := hs'.new' 40 0 (by kernel_rfl)
            have c0 : wo.cell? ⟨w.heap.size, 15, none⟩ = some (.bool c.part) := cell_blk (blk hb (lt_blk HC5.out) HC5.out) 15
            go_simp
            exact Any.post_val hb rfl rfl
          · refine Any.owes_plain rfl fun ρ wo hs' hb hc' => ?_
            have h41 : ρ (.tmp 41) = .bool c.part := hs'.new' 41 1 (by kernel_rfl)
            go_simp
            exact Any.post_val hb rfl rfl
          · refine Any.owes_plain rfl fun ρ wo hs' hb hc' => ?_
            have h42 : ρ (.tmp 42) = .bool (!c.part) := hs'.new' 42 2 (by kernel_rfl)
            rw [HP.out] at h42
            exact Any.ok_move (Any.post_val hb rfl h42)
          · exact Any.owes_off rfl rfl (by kernel_rfl) rfl (by decide) rfl
          · exact Any.owes_off rfl rfl (by kernel_rfl) rfl (by decide) rfl
          · exact Any.owes_off rfl rfl (by kernel_rfl) rfl (by decide) rfl
          · exact Any.owes_off rfl rfl (by kernel_rfl) rfl (by decide) rfl
          · exact Any.owes_off rfl rfl (by kernel_rfl) rfl (by decide) rfl
          · refine Any.owes_plain rfl fun ρ wo hs' hb hc' => ?_
            have h43 : ρ (.tmp 43) = .bool false := hs'.new' 43 3 (by kernel_rfl)
            go_simp
            exact Any.post_val hb rfl rfl
        · intro vals w6 hb hk ha
          have h9 : vals 9 = .bool false := hk 9 (by kernel_rfl)
          have HB6 := Lib.hid (below_then HB5.out hb)
          clear hk ha hb
          simp only [Any.putAll]
          go_frame
          simp only [Nat.zero_add, Nat.reduceAdd]
          rw [h9]
          go_wp2_with fail
          go_ret
          exact ⟨ret_int (by rw [HMC.out, if_neg (by have := HLM.out; omega)]; simp), HB6.out⟩
end Go.Proofs.Ytjabjfkfoenmlaa.Sc
