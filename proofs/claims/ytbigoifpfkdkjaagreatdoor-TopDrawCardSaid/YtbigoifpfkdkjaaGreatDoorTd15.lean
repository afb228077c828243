/- Do of the program. -/
import Derived.Test.YtbigoifpfkdkjaaGreatDoorTd14
namespace Go.Proofs.YtbigoifpfkdkjaaGreatDoor.Sc
open Go Go.RowKit Go.ChangeShapes Go.WideShapes Go.ChangeAt
set_option maxRecDepth 100000

theorem step_bad {l : Lf} {e : Ev} (h : e.ok = false) : l.step e = (1, l) := stepW_bad h
theorem step_late {l : Lf} {e : Ev} (h : e.ok = true) (h1 : l.late e = true) : l.step e = (6, l) := stepW_late h h1
theorem step_cant {l : Lf} {e : Ev} (h : e.ok = true) (h1 : l.late e = false) (h2 : l.can e.kind = false) : l.step e = (9, l) := stepW_cant h h1 h2
theorem step_other {l : Lf} {e : Ev} (h : e.ok = true) (h1 : l.late e = false) (h2 : l.can e.kind = true) (h3 : ¬ e.party = l.byv e.kind) : l.step e = (8, l) := stepW_other h h1 h2 h3
theorem step_code {l : Lf} {e : Ev} (h : e.ok = true) (h1 : l.late e = false) (h2 : l.can e.kind = true) (h3 : e.party = l.byv e.kind) (h4 : ¬ (l.turn e.kind e).1 = 0) : l.step e = ((l.turn e.kind e).1, (l.turn e.kind e).2) := stepW_code h h1 h2 h3 h4
theorem step_done {l : Lf} {e : Ev} (h : e.ok = true) (h1 : l.late e = false) (h2 : l.can e.kind = true) (h3 : e.party = l.byv e.kind) (h4 : (l.turn e.kind e).1 = 0) : l.step e = (0, { (l.turn e.kind e).2 with evs := (l.turn e.kind e).2.evs ++ [e] }) := stepW_done h h1 h2 h3 h4
theorem store_rule {S : Nat → Ord.Spec} {Os : Nat → Nat → Prop} {t : TypeId} {pos : String} {after : Array Edge} {gd : Option (Nat × Bool)} {ρ : Operand → Value} {w : World} {i : Nat} {k0 : Int} {p q : Nat} {y : Operand}
    (hp : ∃ ρ', (Ord.box 122 #[.int .i64 0, .nilFunc, .nilFunc, .nilFunc]).know ρ' (ρ (.tmp 6)) (Os 4) w) (hy : ρ y = .agg (ruleRow k0 p q)) (hr : RulesAt w p q) (hO : ∀ b, Os 3 b ↔ (b = p ∨ b = q))
    (hS : S i = ⟨fun ρ _ O w => ∃ b p q, ρ (.tmp 6) = .pointer (some ⟨b, 0, none⟩) ∧ w.heap[b]? = some (.cells (ruleRow k0 p q) 122 (0, 0)) ∧ RulesAt w p q ∧ ∀ x, O x ↔ (x = b ∨ x = p ∨ x = q), [4, 3], fun _ => False⟩) :
    Any.OpOk Tryz.prog ⟨none, .store 122 (.tmp 6) y, t, pos, after, gd⟩ ρ w (Ord.Post S Os i ρ w) := by
  obtain ⟨_, g, hg, hgb, hOg⟩ := hp
  have h1 : (ruleRow k0 p q).all (fun x => x.oneCell') = true := by
    unfold ruleRow thenV
    repeat' split
    all_goals simp [fnV, toV, Value.oneCell']
  have hr' := run_storeVar_row (P := Tryz.prog) w g 122 122 _ (ruleRow k0 p q) hgb (by kernel_rfl) rfl h1
  have hgp : g ≠ p := by rintro rfl; have := hr.1; rw [hgb] at this; simp at this
  have hgq : g ≠ q := by rintro rfl; have := hr.2; rw [hgb] at this; simp at this
  have hpost : Ord.Post S Os i ρ w undef (w.setRow g (ruleRow k0 p q)) := by
    refine ⟨fun k => k = g ∨ k = p ∨ k = q, ?_, ⟨rfl, rfl, rfl⟩, by simp [World.setRow], fun k _ hn _ => ?_, fun k hk => ?_⟩
    · rw [hS]
      exact ⟨g, p, q, hg, setRow_at hgb, ⟨(setRow_other hgp.symm).trans hr.1, (setRow_other hgq.symm).trans hr.2⟩, fun _ => Iff.rfl⟩
    · exact setRow_other (fun e => hn 4 (by rw [hS]; exact List.mem_cons_self) ((hOg k).2 e))
    · rcases hk with hk | hk
      · exact .inl ⟨4, by rw [hS]; exact List.mem_cons_self, (hOg k).2 hk⟩
      · exact .inl ⟨3, by rw [hS]; exact List.mem_cons_of_mem _ List.mem_cons_self, (hO k).2 hk⟩
  unfold Any.OpOk
  simp only [execOp, hg, hy, Instr.storeAt, Instr.sureAddr, Sem.run_bind, Sem.run_pure, Result.andThen_ok]
  simp [hr', Result.andThen]
  exact hpost

set_option maxHeartbeats 4000000 in
theorem doP_any (bk : Nat) (l : Lf) (F : Nat → Prop) (ev : Ev) (w : World) (h : Lv w 116 F bk l) (s0 : 0 ≤ l.st) (s7 : l.st ≤ 7) (hnp : l.paid.length ≤ 4000) (hnv : l.evs.length ≤ 4000) :
    Calls Tryz.prog 9 #[.pointer (some ⟨bk, 0, none⟩), .agg ev.cells] w (AfterL w 116 F (l.step ev).1 bk (l.step ev).2) := by
  obtain ⟨vp, ve, hw⟩ := h
  obtain ⟨i0, hi, hz, hsz, hby⟩ := info_parts infoEv
  have HI := Lib.hid (And.intro hi (And.intro hz (And.intro hsz hby)))
  clear hi hz hsz hby
  have HKI : Hid (ev.ok = true → 0 ≤ ev.kind ∧ ev.kind ≤ 7) := Lib.hid ev_kind
  obtain ⟨k0, k1, k2, k3⟩ := ev
  simp only [Ev.cells]
  have HLW := Lib.hid hw
  have HNP := Lib.hid hnp
  have HNV := Lib.hid hnv
  have HST := Lib.hid (And.intro s0 s7)
  have WR : Hid (∀ W, Calls Tryz.prog 43 #[.agg #[.int .i64 k0, .string k1, .int .i64 k2, .int .i64 k3]] W (RetB W (!Ev.ok ⟨k0, k1, k2, k3⟩))) := Lib.hid (wrong_any ⟨k0, k1, k2, k3⟩)
  generalize hst : l.step ⟨k0, k1, k2, k3⟩ = st
  have HSTEP := Lib.hid hst
  have HO := Lib.hid (one_below w (.cells #[.int .i64 k0, .string k1, .int .i64 k2, .int .i64 k3] 39))
  have HX1 : Hid ((w.alloc (.cells #[.int .i64 k0, .string k1, .int .i64 k2, .int .i64 k3] 39)).heap[w.heap.size]? = some (.cells #[.int .i64 k0, .string k1, .int .i64 k2, .int .i64 k3] 39 (0, 0))) := Lib.hid (heap_alloc_new _ _)
  have HLW1 := Lib.hid (hw.below HO.out)
  clear hst hnp hnv s0 s7
  cases hok : Ev.ok ⟨k0, k1, k2, k3⟩
  · have HOK := Lib.hid hok
    rw [hok] at WR
    clear hok hw
    go_enter Tryz.func9, Tryz.ntmps9
    go_wp2_with (first | ((with_reducible refine (WR.out _).mono ?_); rintro e w2 ⟨rfl, hb2⟩; have HBB := Lib.hid (below_new hb2); clear hb2) | fail)
    go_ret
    rw [← HSTEP.out, step_bad HOK.out]
    exact afterL_same ⟨vp, ve, HLW.out⟩ HBB.out rfl
  have HOK := Lib.hid hok
  rw [hok] at WR
  have HK0 := Lib.hid (HKI.out hok)
  clear HKI hok
  obtain ⟨n, hn⟩ : ∃ n, n = l.evs.length := ⟨_, rfl⟩
  obtain ⟨av, ca, rfl⟩ : ∃ a c, ve = .slice a n c := by rw [hn]; exact ownsRow_shape hw.evs
  obtain ⟨jj, hjj⟩ : ∃ jj, jj = n - 1 := ⟨_, rfl⟩
  generalize hbn : decide ((0 : Int) < (n : Int)) = bN
  obtain ⟨g, xd, hgx⟩ : ∃ (g : Nat) (xd : Int), bN = true → av = some ⟨g, 0, none⟩ ∧ g < w.heap.size ∧ (∃ x, l.evs.getLast? = some x ∧ x.day = xd) ∧ w.cell? ⟨g, jj * 4 + 2, none⟩ = some (.int .i64 xd) := by
    cases bN
    · exact ⟨0, 0, fun h => by cases h⟩
    · have h0 : 0 < l.evs.length := by have := of_decide_eq_true hbn; omega
      obtain ⟨g, x, h1, h2, h3, h4⟩ := last_day (by have := hw.evs; rw [hn] at this; exact this) h0
      exact ⟨g, x.day, fun _ => ⟨h1, h3, ⟨x, h2, rfl⟩, by rw [hjj, hn]; exact h4⟩⟩
  obtain ⟨late, hlate⟩ : ∃ late, late = (bN && decide (k2 < xd)) := ⟨_, rfl⟩
  have HLT : Hid (late = l.late ⟨k0, k1, k2, k3⟩) := Lib.hid (by
    rw [hlate]
    unfold Lf.late
    cases hb : bN
    · have : l.evs = [] := by
        rw [hb] at hbn
        have := of_decide_eq_false hbn
        exact List.eq_nil_of_length_eq_zero (by omega)
      simp [this]
    · obtain ⟨_, _, ⟨x, hx, hd⟩, _⟩ := hgx hb
      rw [hx, ← hd]
      rfl)
  have HLATE := Lib.hid hlate
  have HN : Hid (bN = true → 1 ≤ n ∧ n ≤ 4000 ∧ n = jj + 1) := Lib.hid (fun h => by rw [h] at hbn; have := of_decide_eq_true hbn; have := HNV.out; omega)
  have HA : Hid (bN = true → av = some ⟨g, 0, none⟩) := Lib.hid (fun h => (hgx h).1)
  have HXC : Hid (bN = true → ∀ W, Below w.heap.size w W → W.cell? ⟨g, jj * 4 + 2, none⟩ = some (.int .i64 xd)) := Lib.hid (fun h W hb => (hb.cell (p := ⟨g, jj * 4 + 2, none⟩) (hgx h).2.1).trans (hgx h).2.2.2)
  have d24 : (w.alloc (.cells #[.int .i64 k0, .string k1, .int .i64 k2, .int .i64 k3] 39)).cell? ⟨bk, 24, none⟩ = some (.slice av n ca) := HLW1.out.box.cell 24
  have hbn2 : decide (0 < n) = bN := by rw [← hbn, decide_eq_decide]; omega
  clear hgx hlate hn hw hjj
  go_enter Tryz.func9, Tryz.ntmps9
  go_wp2_with (first | ((with_reducible refine (WR.out _).mono ?_); rintro e w2 ⟨rfl, hb2⟩; have HBB := Lib.hid (below_new hb2); have HX2 := Lib.hid (blk hb2 (lt_blk HX1.out) HX1.out); have HLW2 := Lib.hid (HLW1.out.below hb2); clear hb2 d24; have HB2 : Hid (Box w2 116 bk l vp (.slice av n ca)) := Lib.hid HLW2.out.box; have d24 : w2.cell? ⟨bk, 24, none⟩ = some (.slice av n ca) := HB2.out.cell 24) | fail)
  have HXD : Hid (bN = true → ∀ W, Below w2.drew.heap.size w2.drew W → W.cell? ⟨g, jj * 4 + 2, none⟩ = some (.int .i64 xd)) := Lib.hid (fun h W hb => HXC.out h W (below_then HBB.out (below_undrew hb)))
  clear d24 HXC
  refine Any.region_lit (fun
    | 0 => Any.val (.int .i64 n)
    | 1 => Any.val (.bool bN)
    | 2 => Any.val (.bool bN)
    | 3 => Any.val (if bN = true then .pointer (some ⟨w.heap.size, 2, none⟩) else undef)
    | 4 => Any.val (if bN = true then .int .i64 k2 else undef)
    | 5 => Any.val (if bN = true then .pointer (some ⟨bk, 0, none⟩) else undef)
    | 6 => Any.val (if bN = true then .pointer (some ⟨bk, 0, none⟩) else undef)
    | 7 => Any.val (if bN = true then .pointer (some ⟨bk, 24, none⟩) else undef)
    | 8 => Any.val (if bN = true then .slice av n ca else undef)
    | 9 => Any.val (if bN = true then .int .i64 n else undef)
    | 10 => Any.val (if bN = true then .int .i64 (jj : Int) else undef)
    | 11 => Any.val (if bN = true then .pointer (some ⟨g, jj * 4, none⟩) else undef)
    | 12 => Any.val (if bN = true then .pointer (some ⟨g, jj * 4 + 2, none⟩) else undef)
    | 13 => Any.val (if bN = true then .int .i64 xd else undef)
    | 14 => Any.val (if bN = true then .bool (decide (k2 < xd)) else undef)
    | 15 => Any.val (.bool late)
    | _ => Any.idle) (by kernel_rfl) (by kernel_rfl) (by kernel_rfl) ?_ ?_ ?_
  · intro i _
    match i with
    | 0 => exact Any.lasts_val _
    | 1 => exact Any.lasts_val _
    | 2 => exact Any.lasts_val _
    | 3 => exact Any.lasts_val _
    | 4 => exact Any.lasts_val _
    | 5 => exact Any.lasts_val _
    | 6 => exact Any.lasts_val _
    | 7 => exact Any.lasts_val _
    | 8 => exact Any.lasts_val _
    | 9 => exact Any.lasts_val _
    | 10 => exact Any.lasts_val _
    | 11 => exact Any.lasts_val _
    | 12 => exact Any.lasts_val _
    | 13 => exact Any.lasts_val _
    | 14 => exact Any.lasts_val _
    | 15 => exact Any.lasts_val _
    | n + 16 => exact Any.lasts_idle
  · refine ⟨?_, ?_, ?_, ?_, ?_, ?_, ?_, ?_, ?_, ?_, ?_, ?_, ?_, ?_, ?_, ?_, trivial⟩
    · refine Any.owes_plain rfl fun ρ wo hs' hb hc' => ?_
      have h5 : ρ (.tmp 5) = .int .i64 n := hs'.old' 5 (by kernel_rfl)
      exact Any.ok_move (Any.post_val hb rfl h5)
    · refine Any.owes_plain rfl fun ρ wo hs' hb hc' => ?_
      have h15 : ρ (.tmp 15) = .int .i64 n := hs'.new' 15 0 (by kernel_rfl)
      go_simp
      exact Any.post_val hb rfl rfl
    · refine Any.owes_plain rfl fun ρ wo hs' hb hc' => ?_
      have h16 : ρ (.tmp 16) = .bool bN := hs'.new' 16 1 (by kernel_rfl)
      exact Any.ok_move (Any.post_val hb rfl h16)
    · refine Any.owes_guard rfl rfl (by kernel_rfl) rfl rfl fun hp ρ wo hs' hb hc' => ?_
      have h3 : ρ (.tmp 3) = .pointer (some ⟨w.heap.size, 0, none⟩) := hs'.old' 3 (by kernel_rfl)
      go_simp
      exact Any.is_mk rfl
    · refine Any.owes_guard rfl rfl (by kernel_rfl) rfl rfl fun hp ρ wo hs' hb hc' => ?_
      have h18 : ρ (.tmp 18) = if bN = true then .pointer (some ⟨w.heap.size, 2, none⟩) else undef := hs'.new' 18 3 (by kernel_rfl)
      rw [if_pos hp] at h18
      have c0 : wo.cell? ⟨w.heap.size, 2, none⟩ = some (.int .i64 k2) := cell_blk (blk hb (lt_blk HX2.out) HX2.out) 2
      go_simp
      exact Any.is_mk rfl
    · refine Any.owes_guard rfl rfl (by kernel_rfl) rfl rfl fun hp ρ wo hs' hb hc' => ?_
      have h0 : ρ (.tmp 0) = .pointer (some ⟨bk, 0, none⟩) := hs'.old' 0 (by kernel_rfl)
      exact Any.ok_move (Any.is_mk h0)
    · refine Any.owes_guard rfl rfl (by kernel_rfl) rfl rfl fun hp ρ wo hs' hb hc' => ?_
      have h20 : ρ (.tmp 20) = if bN = true then .pointer (some ⟨bk, 0, none⟩) else undef := hs'.new' 20 5 (by kernel_rfl)
      rw [if_pos hp] at h20
      go_simp
      exact Any.is_mk rfl
    · refine Any.owes_guard rfl rfl (by kernel_rfl) rfl rfl fun hp ρ wo hs' hb hc' => ?_
      have h21 : ρ (.tmp 21) = if bN = true then .pointer (some ⟨bk, 0, none⟩) else undef := hs'.new' 21 6 (by kernel_rfl)
      rw [if_pos hp] at h21
      go_simp
      exact Any.is_mk rfl
    · refine Any.owes_guard rfl rfl (by kernel_rfl) rfl rfl fun hp ρ wo hs' hb hc' => ?_
      have h22 : ρ (.tmp 22) = if bN = true then .pointer (some ⟨bk, 24, none⟩) else undef := hs'.new' 22 7 (by kernel_rfl)
      rw [if_pos hp] at h22
      have c0 : wo.cell? ⟨bk, 24, none⟩ = some (.slice av n ca) := cell_blk (blk hb (lt_blk HB2.out) HB2.out) 24
      go_simp
      exact Any.is_mk rfl
    · refine Any.owes_guard rfl rfl (by kernel_rfl) rfl rfl fun hp ρ wo hs' hb hc' => ?_
      have h5 : ρ (.tmp 5) = .int .i64 n := hs'.old' 5 (by kernel_rfl)
      exact Any.ok_move (Any.is_mk h5)
    · refine Any.owes_guard rfl rfl (by kernel_rfl) rfl rfl fun hp ρ wo hs' hb hc' => ?_
      have h24 : ρ (.tmp 24) = if bN = true then .int .i64 n else undef := hs'.new' 24 9 (by kernel_rfl)
      rw [if_pos hp] at h24
      have hn := HN.out hp
      go_simp
      exact Any.is_mk (wrap_in (by omega))
    · refine Any.owes_guard rfl rfl (by kernel_rfl) rfl rfl fun hp ρ wo hs' hb hc' => ?_
      have h23 : ρ (.tmp 23) = if bN = true then .slice av n ca else undef := hs'.new' 23 8 (by kernel_rfl)
      rw [if_pos hp] at h23
      have h25 : ρ (.tmp 25) = if bN = true then .int .i64 (jj : Int) else undef := hs'.new' 25 10 (by kernel_rfl)
      rw [if_pos hp] at h25
      have hn := HN.out hp
      rw [HA.out hp] at h23
      have hlt : jj < n := by omega
      clear hn
      go_simp
      exact Any.is_mk rfl
    · refine Any.owes_guard rfl rfl (by kernel_rfl) rfl rfl fun hp ρ wo hs' hb hc' => ?_
      have h26 : ρ (.tmp 26) = if bN = true then .pointer (some ⟨g, jj * 4, none⟩) else undef := hs'.new' 26 11 (by kernel_rfl)
      rw [if_pos hp] at h26
      go_simp
      exact Any.is_mk rfl
    · refine Any.owes_guard rfl rfl (by kernel_rfl) rfl rfl fun hp ρ wo hs' hb hc' => ?_
      have h27 : ρ (.tmp 27) = if bN = true then .pointer (some ⟨g, jj * 4 + 2, none⟩) else undef := hs'.new' 27 12 (by kernel_rfl)
      rw [if_pos hp] at h27
      have c0 := HXD.out hp wo hb
      go_simp
      exact Any.is_mk rfl
    · refine Any.owes_guard rfl rfl (by kernel_rfl) rfl rfl fun hp ρ wo hs' hb hc' => ?_
      have h19 : ρ (.tmp 19) = if bN = true then .int .i64 k2 else undef := hs'.new' 19 4 (by kernel_rfl)
      rw [if_pos hp] at h19
      have h28 : ρ (.tmp 28) = if bN = true then .int .i64 xd else undef := hs'.new' 28 13 (by kernel_rfl)
      rw [if_pos hp] at h28
      go_simp
      exact Any.is_mk rfl
    · refine Any.owes_plain rfl fun ρ wo hs' hb hc' => ?_
      have h17 : ρ (.tmp 17) = .bool bN := hs'.new' 17 2 (by kernel_rfl)
      have h29 : ρ (.tmp 29) = if bN = true then .bool (decide (k2 < xd)) else undef := hs'.new' 29 14 (by kernel_rfl)
      refine Any.ok_pick h17 (Any.post_val hb rfl ?_)
      rw [HLATE.out]
      cases bN
      · exact hc' _
      · exact h29
  · intro vals w3 hb hk ha
    have h15 : vals 15 = .bool late := hk 15 (by kernel_rfl)
    have hbb := hb
    have HX3 := Lib.hid (blk hbb (lt_blk HX2.out) HX2.out)
    have HB3 := Lib.hid (blk hbb (lt_blk HB2.out) HB2.out)
    have HLW3 := Lib.hid (HLW2.out.below hbb)
    have HBB := Lib.hid (below_then HBB.out hbb)
    clear hk ha hb hbb
    simp only [Any.putAll]
    go_frame
    simp only [Nat.zero_add, Nat.reduceAdd]
    
    cases hlate : late
    · have HLATE : Hid (l.late ⟨k0, k1, k2, k3⟩ = false) := Lib.hid (HLT.out.symm.trans hlate)
      rw [hlate] at h15
      clear hlate
      rw [h15]
      go_wp2_with fail
      refine Ord.region_lit (fun
        | 0 => ⟨fun _ v O w => ∃ p q, v = .agg (rulesRow p q) ∧ RulesAt w p q ∧ ∀ b, O b ↔ (b = p ∨ b = q), [], fun _ => False⟩
        | 1 => Ord.val (.pointer (some ⟨w.heap.size, 0, none⟩))
        | 2 => Ord.val (.int .i64 k0)
        | 3 => ⟨fun _ v O w => ∃ p q, v = .agg (ruleRow k0 p q) ∧ RulesAt w p q ∧ ∀ b, O b ↔ (b = p ∨ b = q), [0], fun _ => False⟩
        | 4 => Ord.box 122 #[.int .i64 0, .nilFunc, .nilFunc, .nilFunc]
        | 5 => ⟨fun ρ _ O w => ∃ b p q, ρ (.tmp 6) = .pointer (some ⟨b, 0, none⟩) ∧ w.heap[b]? = some (.cells (ruleRow k0 p q) 122 (0, 0)) ∧ RulesAt w p q ∧ ∀ x, O x ↔ (x = b ∨ x = p ∨ x = q), [4, 3], fun _ => False⟩
        | _ => Ord.idle) (fun _ => False) (by kernel_rfl) (by kernel_rfl) (by kernel_rfl) ?_ ?_ ?_ ?_
      · intro i _
        match i with
        | 0 => exact ⟨fun _ _ _ _ h b hb => by
          obtain ⟨p, q, _, h2, h3⟩ := h
          rcases (h3 b).1 hb with rfl | rfl
          · exact lt_blk h2.1
          · exact lt_blk h2.2, fun _ _ _ _ _ h _ _ _ hs => by
          obtain ⟨p, q, h1, h2, h3⟩ := h
          exact ⟨p, q, h1, ⟨(hs p ((h3 p).2 (.inl rfl))).trans h2.1, (hs q ((h3 q).2 (.inr rfl))).trans h2.2⟩, h3⟩⟩
        | 1 => exact Ord.lasts_val _
        | 2 => exact Ord.lasts_val _
        | 3 => exact ⟨fun _ _ _ _ h b hb => by
          obtain ⟨p, q, _, h2, h3⟩ := h
          rcases (h3 b).1 hb with rfl | rfl
          · exact lt_blk h2.1
          · exact lt_blk h2.2, fun _ _ _ _ _ h _ _ _ hs => by
          obtain ⟨p, q, h1, h2, h3⟩ := h
          exact ⟨p, q, h1, ⟨(hs p ((h3 p).2 (.inl rfl))).trans h2.1, (hs q ((h3 q).2 (.inr rfl))).trans h2.2⟩, h3⟩⟩
        | 4 => exact Ord.lasts_box _ _
        | 5 => exact ⟨fun _ _ _ _ h b hb => by
          obtain ⟨c, p, q, _, h1, h2, h3⟩ := h
          rcases (h3 b).1 hb with rfl | rfl | rfl
          · exact lt_blk h1
          · exact lt_blk h2.1
          · exact lt_blk h2.2, fun _ _ _ _ _ h _ _ _ hs => by
          obtain ⟨c, p, q, h0, h1, h2, h3⟩ := h
          exact ⟨c, p, q, h0, (hs c ((h3 c).2 (.inl rfl))).trans h1, ⟨(hs p ((h3 p).2 (.inr (.inl rfl)))).trans h2.1, (hs q ((h3 q).2 (.inr (.inr rfl)))).trans h2.2⟩, h3⟩⟩
        | n + 6 => exact Ord.lasts_idle
      · refine ⟨fun k b _ hh => ?_, fun k b _ hh => ?_, fun k k' b _ _ hne h1 h2 => ?_⟩
        · match k, hh with
          | 0, hh => exact hh.elim
          | 1, hh => exact hh.elim
          | 2, hh => exact hh.elim
          | 3, hh => exact hh.elim
          | 4, hh => exact hh.elim
          | 5, hh => exact hh.elim
          | m + 6, hh => exact hh.elim
        · match k, hh with
          | 0, hh => exact hh.elim
          | 1, hh => exact hh.elim
          | 2, hh => exact hh.elim
          | 3, hh => exact hh.elim
          | 4, hh => exact hh.elim
          | 5, hh => exact hh.elim
          | m + 6, hh => exact hh.elim
        · match k, h1 with
          | 0, hh => exact hh.elim
          | 1, hh => exact hh.elim
          | 2, hh => exact hh.elim
          | 3, hh => exact hh.elim
          | 4, hh => exact hh.elim
          | 5, hh => exact hh.elim
          | m + 6, hh => exact hh.elim
      · refine ⟨?_, ?_, ?_, ?_, ?_, ?_, trivial⟩
        · refine Ord.owes_plain rfl fun ρ Os wo hs' hb hc' => ?_
          have hf := hs'.func 44
          go_simp
          exact (rules_any wo).mono fun e w' ⟨p, q, he, hb', h1, h2, h3, h4⟩ => ⟨_, he, Ord.post_new (O := fun b => b = p ∨ b = q) ⟨p, q, rfl, ⟨h1, h2⟩, fun _ => Iff.rfl⟩ hb' (fun b hb => hb.elim (fun e => e ▸ h3) (fun e => e ▸ h4))⟩
        · refine Ord.owes_plain rfl fun ρ Os wo hs' hb hc' => ?_
          have h3 : ρ (.tmp 3) = .pointer (some ⟨w.heap.size, 0, none⟩) := hs'.old' 3 (by kernel_rfl)
          go_simp
          exact Ord.post_val rfl rfl
        · refine Ord.owes_plain rfl fun ρ Os wo hs' hb hc' => ?_
          have h32 : ρ (.tmp 32) = .pointer (some ⟨w.heap.size, 0, none⟩) := hs'.val' 32 1 (by kernel_rfl) rfl
          have c0 : wo.cell? ⟨w.heap.size, 0, none⟩ = some (.int .i64 k0) := cell_blk ((hb.block _ (lt_blk HX3.out) (fun h => h.elim)).trans HX3.out) 0
          go_simp
          exact Ord.post_val rfl rfl
        · refine Ord.owes_plain rfl fun ρ Os wo hs' hb hc' => ?_
          have h33 : ρ (.tmp 33) = .int .i64 k0 := hs'.val' 33 2 (by kernel_rfl) rfl
          obtain ⟨_, p, q, h31, hr, hO⟩ := hs'.new' 31 0 (by kernel_rfl)
          have hx := rule_index k0 p q HK0.out.1 HK0.out.2 wo
          go_simp
          exact ⟨fun b => b = p ∨ b = q, ⟨p, q, rfl, hr, fun _ => Iff.rfl⟩, ⟨rfl, rfl, rfl⟩, Nat.le_refl _, fun _ _ _ _ => rfl, fun b hb => .inl ⟨0, List.mem_cons_self, (hO b).2 hb⟩⟩
        · refine Ord.owes_plain rfl fun ρ Os wo hs' hb hc' => ?_
          go_simp
          exact Ord.post_box rfl
        · refine Ord.owes_plain rfl fun ρ Os wo hs' hb hc' => ?_
          obtain ⟨_, p, q, h34, hr, hO⟩ := hs'.new' 34 3 (by kernel_rfl)
          exact store_rule (hs'.new' 6 4 (by kernel_rfl)) h34 hr hO rfl
      · intro vals Os ρs w3b hk hkn hln hap hbd
        obtain ⟨br, p, q, hp6, hbr, hru, hO⟩ := hkn 5 (by kernel_rfl)
        have h4 : vals 4 = .pointer (some ⟨br, 0, none⟩) := (hln 5 6 4 (by kernel_rfl)).symm.trans hp6
        have hbb : Below w3.heap.size w3 w3b := hk.below (Nat.le_refl _) (fun _ _ h => h)
        have HX4 := Lib.hid (blk hbb (lt_blk HX3.out) HX3.out)
        have HR4 := Lib.hid hbr
        have HRU := Lib.hid hru
        have HLW4 := Lib.hid (HLW3.out.below hbb)
        have HBB := Lib.hid (below_then HBB.out hbb)
        clear hk hkn hln hap hbd hp6 hbr hru hO hbb
        simp only [Any.putAll]
        go_frame
        simp only [Nat.zero_add, Nat.reduceAdd]
        
        rw [h4]
        have r0 : w3b.cell? ⟨br, 0, none⟩ = some (.int .i64 (stOf k0)) := cell_blk HR4.out 0
        have r1 : w3b.cell? ⟨br, 1, none⟩ = some (fnV (mayF k0)) := cell_blk HR4.out 1
        have r2 : w3b.cell? ⟨br, 2, none⟩ = some (fnV (byF k0)) := cell_blk HR4.out 2
        have r3 : w3b.cell? ⟨br, 3, none⟩ = some (thenV k0 p q) := cell_blk HR4.out 3
        have SH : Hid (Calls Tryz.prog 45 #[.agg #[.int .i64 (stOf k0), fnV (mayF k0), fnV (byF k0), thenV k0 p q], .pointer (some ⟨bk, 0, none⟩)] w3b (RetB w3b (l.can k0))) := Lib.hid (holds_any k0 HK0.out.1 HK0.out.2 p q bk l _ _ w3b HLW4.out.box HST.out.1 HST.out.2)
        cases hcan : l.can k0
        · have HCAN := Lib.hid hcan
          rw [hcan] at SH
          clear hcan
          go_wp2_with (first | ((with_reducible refine SH.out.mono ?_); rintro e w4 ⟨rfl, hb4⟩; have HBB := Lib.hid (below_then HBB.out hb4); clear hb4) | fail)
          go_ret
          rw [← HSTEP.out, step_cant HOK.out HLATE.out HCAN.out]
          exact afterL_same ⟨_, _, HLW.out⟩ HBB.out rfl
        · have HCAN := Lib.hid hcan
          rw [hcan] at SH
          clear hcan
          go_wp2_with (first | ((with_reducible refine SH.out.mono ?_); rintro e w4 ⟨rfl, hb4⟩; have HX4 := Lib.hid (blk hb4 (lt_blk HX4.out) HX4.out); have HR4 := Lib.hid (blk hb4 (lt_blk HR4.out) HR4.out); have HRU := Lib.hid (HRU.out.below hb4); have HLW4 := Lib.hid (HLW4.out.below hb4); have HBB := Lib.hid (below_then HBB.out hb4); clear hb4 r0 r1 r2 r3) | fail)
          have HB4 : Hid (Box w4 116 bk l vp (.slice av n ca)) := Lib.hid HLW4.out.box
          obtain ⟨yv, hyv⟩ : ∃ yv, yv = l.byv k0 := ⟨_, rfl⟩
          have HYV := Lib.hid hyv
          have SY := Lib.hid (by_all k0 HK0.out.1 HK0.out.2 bk l vp (.slice av n ca))
          rw [← hyv] at SY
          clear hyv
          refine Any.region_lit (fun
            | 0 => Any.val (.pointer (some ⟨w.heap.size, 1, none⟩))
            | 1 => Any.val (.string k1)
            | 2 => Any.val (.pointer (some ⟨br, 2, none⟩))
            | 3 => Any.val (fnV (byF k0))
            | 4 => Any.val (.pointer (some ⟨bk, 0, none⟩))
            | 5 => Any.val (.string yv)
            | 6 => Any.val (.bool (!(k1.toList == yv.toList)))
            | _ => Any.idle) (by kernel_rfl) (by kernel_rfl) (by kernel_rfl) ?_ ?_ ?_
          · intro i _
            match i with
            | 0 => exact Any.lasts_val _
            | 1 => exact Any.lasts_val _
            | 2 => exact Any.lasts_val _
            | 3 => exact Any.lasts_val _
            | 4 => exact Any.lasts_val _
            | 5 => exact Any.lasts_val _
            | 6 => exact Any.lasts_val _
            | n + 7 => exact Any.lasts_idle
          · refine ⟨?_, ?_, ?_, ?_, ?_, ?_, ?_, trivial⟩
            · refine Any.owes_plain rfl fun ρ wo hs' hb hc' => ?_
              have h3 : ρ (.tmp 3) = .pointer (some ⟨w.heap.size, 0, none⟩) := hs'.old' 3 (by kernel_rfl)
              go_simp
              exact Any.post_val hb rfl rfl
            · refine Any.owes_plain rfl fun ρ wo hs' hb hc' => ?_
              have h39 : ρ (.tmp 39) = .pointer (some ⟨w.heap.size, 1, none⟩) := hs'.new' 39 0 (by kernel_rfl)
              have c0 : wo.cell? ⟨w.heap.size, 1, none⟩ = some (.string k1) := cell_blk (blk hb (lt_blk HX4.out) HX4.out) 1
              go_simp
              exact Any.post_val hb rfl rfl
            · refine Any.owes_plain rfl fun ρ wo hs' hb hc' => ?_
              have h6 : ρ (.tmp 6) = .pointer (some ⟨br, 0, none⟩) := hs'.old' 6 (by kernel_rfl)
              go_simp
              exact Any.post_val hb rfl rfl
            · refine Any.owes_plain rfl fun ρ wo hs' hb hc' => ?_
              have h41 : ρ (.tmp 41) = .pointer (some ⟨br, 2, none⟩) := hs'.new' 41 2 (by kernel_rfl)
              have c0 : wo.cell? ⟨br, 2, none⟩ = some (fnV (byF k0)) := cell_blk (blk hb (lt_blk HR4.out) HR4.out) 2
              go_simp
              exact Any.post_val hb rfl rfl
            · refine Any.owes_plain rfl fun ρ wo hs' hb hc' => ?_
              have h0 : ρ (.tmp 0) = .pointer (some ⟨bk, 0, none⟩) := hs'.old' 0 (by kernel_rfl)
              exact Any.ok_move (Any.post_val hb rfl h0)
            · refine Any.owes_plain rfl fun ρ wo hs' hb hc' => ?_
              have h42 : ρ (.tmp 42) = fnV (byF k0) := hs'.new' 42 3 (by kernel_rfl)
              have h43 : ρ (.tmp 43) = .pointer (some ⟨bk, 0, none⟩) := hs'.new' 43 4 (by kernel_rfl)
              exact Any.ok_dyn1 h42 h43 (by_go k0 _ wo) ((SY.out wo (HB4.out.below (below_undrew hb))).mono fun e w' ⟨he, hb'⟩ => ⟨_, he, Any.post_vals hb rfl rfl hb'⟩)
            · refine Any.owes_plain rfl fun ρ wo hs' hb hc' => ?_
              have h40 : ρ (.tmp 40) = .string k1 := hs'.new' 40 1 (by kernel_rfl)
              have h44 : ρ (.tmp 44) = .string yv := hs'.new' 44 5 (by kernel_rfl)
              go_simp
              exact Any.post_val hb rfl rfl
          · intro vals w4b hb hk ha
            have h6 : vals 6 = .bool (!(k1.toList == yv.toList)) := hk 6 (by kernel_rfl)
            have hbb := hb
            have HX4 := Lib.hid (blk hbb (lt_blk HX4.out) HX4.out)
            have HR4 := Lib.hid (blk hbb (lt_blk HR4.out) HR4.out)
            have HRU := Lib.hid (HRU.out.below hbb)
            have HLW4 := Lib.hid (HLW4.out.below hbb)
            have HBB := Lib.hid (below_then HBB.out hbb)
            clear hk ha hb hbb
            simp only [Any.putAll]
            go_frame
            simp only [Nat.zero_add, Nat.reduceAdd]
            by_cases hy : k1 = yv
            · have tY := str_yes hy
              have HY := Lib.hid (hy.trans HYV.out)
              clear hy
              rw [tY] at h6
              clear tY
              rw [h6]
              obtain ⟨x0, x1, x2, x3⟩ := ev_cells HX4.out
              have r3 : w4b.cell? ⟨br, 3, none⟩ = some (.func (.func (thenF k0)) #[] (thenC k0 p q)) := (cell_blk HR4.out 3).trans (congrArg some (then_val k0 HK0.out.1 HK0.out.2 p q))
              have ST := Lib.hid (then_all k0 HK0.out.1 HK0.out.2 p q bk l F ⟨k0, k1, k2, k3⟩ w4b ⟨_, _, HLW4.out⟩ HRU.out HNP.out)
              have GT := Lib.hid (then_go k0 (#[.pointer (some ⟨bk, 0, none⟩), .agg #[.int .i64 k0, .string k1, .int .i64 k2, .int .i64 k3]] ++ thenC k0 p q) w4b)
              have HEV : Hid ((l.turn k0 ⟨k0, k1, k2, k3⟩).2.evs = l.evs) := Lib.hid (turn_evs l k0 _)
              generalize hc1 : (l.turn k0 ⟨k0, k1, k2, k3⟩).1 = c1 at *
              generalize hl5 : (l.turn k0 ⟨k0, k1, k2, k3⟩).2 = l5 at *
              have HC1 := Lib.hid hc1
              have HL5 := Lib.hid hl5
              clear hc1 hl5
              by_cases hz : c1 = 0
              · have tz : (c1 != 0) = false := by simp [hz]
                have HCZ := Lib.hid hz
                clear hz
                go_wp2_with (first
                  | (refine Any.wpl rfl (Any.ok_dyn2 (k := thenF k0) (caps := thenC k0 p q) (v0 := .pointer (some ⟨bk, 0, none⟩)) (v1 := .agg #[.int .i64 k0, .string k1, .int .i64 k2, .int .i64 k3]) rfl rfl rfl GT.out (ST.out.mono ?_)); rintro e w5 ⟨rfl, hk5, F5, hl5, hF5⟩; refine ⟨_, rfl, ?_⟩; have HK5 := Lib.hid hk5; have HL5V := Lib.hid hl5; have HF5 := Lib.hid hF5; clear hk5 hl5 hF5 x0 x1 x2 x3 r3)
                  | fail)
                obtain ⟨vp5, ve5, hlw5⟩ := HL5V.out
                have HLW5 := Lib.hid hlw5
                have HNX : Hid (¬ F w.heap.size) := Lib.hid (fun h => Nat.lt_irrefl _ (HLW.out.lt _ h))
                have HX5 := Lib.hid (HK5.out.blk HX4.out HNX.out)
                have HNF : Hid (¬ (w.heap.size = bk ∨ ve5.ownBlock = some w.heap.size)) := Lib.hid (fun h => h.elim (fun e => HNX.out (e ▸ HLW.out.own)) (fun e => (HF5.out _ (HLW5.out.fe _ e)).elim HNX.out (fun h => by have := lt_blk HX4.out; omega)))
                have HBX : Hid (w5.heap[bk]? = some (.cells (l5.cells vp5 ve5) 116 (0, 0))) := Lib.hid HLW5.out.box
                have HROW := Lib.hid HLW5.out.evs
                have HNE : Hid (∀ k, ve5.ownBlock = some k → ¬ k = bk) := Lib.hid fun k hk e => row_off HLW5.out.evs HLW5.out.box (by decide) (e ▸ hk)
                have HL : Hid (l5.evs.length + 1 ≤ maxLen ∧ (l5.evs.length + 1) * 40 ≤ 140737488355328) := Lib.hid (by have h1 := HNV.out; rw [← HEV.out] at h1; simp only [maxLen]; omega)
                clear hlw5 tz
                refine Ord.region_lit (fun
                  | 0 => Ord.val (.pointer (some ⟨bk, 0, none⟩))
                  | 1 => Ord.val (.pointer (some ⟨bk, 0, none⟩))
                  | 2 => Ord.val (.pointer (some ⟨bk, 0, none⟩))
                  | 3 => Ord.val (.pointer (some ⟨bk, 24, none⟩))
                  | 4 => Ord.val (ve5)
                  | 5 => Ord.val (.agg #[.int .i64 k0, .string k1, .int .i64 k2, .int .i64 k3])
                  | 6 => Ord.one 39 #[.int .i64 k0, .string k1, .int .i64 k2, .int .i64 k3]
                  | 7 => Ord.grown 39 4 (l5.evs.length + 1) (evCells l5.evs ++ [.int .i64 k0, .string k1, .int .i64 k2, .int .i64 k3]) 6 (ve5)
                  | 8 => Ord.val (.pointer (some ⟨bk, 0, none⟩))
                  | 9 => Ord.val (.pointer (some ⟨bk, 24, none⟩))
                  | 10 => Ord.kept 39 4 (l5.evs.length + 1) (evCells l5.evs ++ [.int .i64 k0, .string k1, .int .i64 k2, .int .i64 k3]) (bk) (fun v => l5.cells vp5 v) 116 7
                  | _ => Ord.idle) (fun k => k = bk ∨ (ve5).ownBlock = some k) (by kernel_rfl) (by kernel_rfl) (by kernel_rfl) ?_ ?_ ?_ ?_
                · intro i _
                  match i with
                  | 0 => exact Ord.lasts_val _
                  | 1 => exact Ord.lasts_val _
                  | 2 => exact Ord.lasts_val _
                  | 3 => exact Ord.lasts_val _
                  | 4 => exact Ord.lasts_val _
                  | 5 => exact Ord.lasts_val _
                  | 6 => exact Ord.lasts_one _ _
                  | 7 => exact Ord.lasts_grown _ _ _ _ _ _
                  | 8 => exact Ord.lasts_val _
                  | 9 => exact Ord.lasts_val _
                  | 10 => exact Ord.lasts_kept _ _ _ _ _ _ _ _
                  | n + 11 => exact Ord.lasts_idle
                · refine ⟨fun k b _ hh => ?_, fun k b _ hh => ?_, fun k k' b _ _ hne h1 h2 => ?_⟩
                  · match k, hh with
                    | 0, hh => exact hh.elim
                    | 1, hh => exact hh.elim
                    | 2, hh => exact hh.elim
                    | 3, hh => exact hh.elim
                    | 4, hh => exact hh.elim
                    | 5, hh => exact hh.elim
                    | 6, hh => exact hh.elim
                    | 7, hh => exact .inr hh
                    | 8, hh => exact hh.elim
                    | 9, hh => exact hh.elim
                    | 10, hh => exact .inl hh
                    | m + 11, hh => exact hh.elim
                  · match k, hh with
                    | 0, hh => exact hh.elim
                    | 1, hh => exact hh.elim
                    | 2, hh => exact hh.elim
                    | 3, hh => exact hh.elim
                    | 4, hh => exact hh.elim
                    | 5, hh => exact hh.elim
                    | 6, hh => exact hh.elim
                    | 7, hh => exact (HROW.out.lt b hh).2
                    | 8, hh => exact hh.elim
                    | 9, hh => exact hh.elim
                    | 10, hh => exact hh ▸ lt_blk HBX.out
                    | m + 11, hh => exact hh.elim
                  · have a : (k = 7 ∧ (fun k => (ve5).ownBlock = some k) b) ∨ (k = 10 ∧ (fun k => k = bk) b) := by
                      match k, h1 with
                      | 0, hh => exact hh.elim
                      | 1, hh => exact hh.elim
                      | 2, hh => exact hh.elim
                      | 3, hh => exact hh.elim
                      | 4, hh => exact hh.elim
                      | 5, hh => exact hh.elim
                      | 6, hh => exact hh.elim
                      | 7, hh => exact .inl ⟨rfl, hh⟩
                      | 8, hh => exact hh.elim
                      | 9, hh => exact hh.elim
                      | 10, hh => exact Or.inr (⟨rfl, hh⟩)
                      | m + 11, hh => exact hh.elim
                    have a' : (k' = 7 ∧ (fun k => (ve5).ownBlock = some k) b) ∨ (k' = 10 ∧ (fun k => k = bk) b) := by
                      match k', h2 with
                      | 0, hh => exact hh.elim
                      | 1, hh => exact hh.elim
                      | 2, hh => exact hh.elim
                      | 3, hh => exact hh.elim
                      | 4, hh => exact hh.elim
                      | 5, hh => exact hh.elim
                      | 6, hh => exact hh.elim
                      | 7, hh => exact .inl ⟨rfl, hh⟩
                      | 8, hh => exact hh.elim
                      | 9, hh => exact hh.elim
                      | 10, hh => exact Or.inr (⟨rfl, hh⟩)
                      | m + 11, hh => exact hh.elim
                    rcases a with ⟨rfl, a⟩ | ⟨rfl, a⟩ <;> rcases a' with ⟨rfl, a'⟩ | ⟨rfl, a'⟩
                    all_goals first | exact absurd rfl hne | (first | exact HNE.out _ a a' | exact HNE.out _ a' a)
                · refine ⟨?_, ?_, ?_, ?_, ?_, ?_, ?_, ?_, ?_, ?_, ?_, trivial⟩
                  · refine Ord.owes_plain rfl fun ρ Os wo hs' hb hc' => ?_
                    have h0 : ρ (.tmp 0) = .pointer (some ⟨bk, 0, none⟩) := hs'.old' 0 (by kernel_rfl)
                    exact Any.ok_move (Ord.post_val rfl h0)
                  · refine Ord.owes_plain rfl fun ρ Os wo hs' hb hc' => ?_
                    have h0 : ρ (.tmp 0) = .pointer (some ⟨bk, 0, none⟩) := hs'.old' 0 (by kernel_rfl)
                    exact Any.ok_move (Ord.post_val rfl h0)
                  · refine Ord.owes_plain rfl fun ρ Os wo hs' hb hc' => ?_
                    have h55 : ρ (.tmp 55) = .pointer (some ⟨bk, 0, none⟩) := hs'.val' 55 1 (by kernel_rfl) rfl
                    go_simp
                    exact Ord.post_val rfl rfl
                  · refine Ord.owes_plain rfl fun ρ Os wo hs' hb hc' => ?_
                    have h56 : ρ (.tmp 56) = .pointer (some ⟨bk, 0, none⟩) := hs'.val' 56 2 (by kernel_rfl) rfl
                    go_simp
                    exact Ord.post_val rfl rfl
                  · refine Ord.owes_plain rfl fun ρ Os wo hs' hb hc' => ?_
                    have h57 : ρ (.tmp 57) = .pointer (some ⟨bk, 24, none⟩) := hs'.val' 57 3 (by kernel_rfl) rfl
                    have c0 : wo.cell? ⟨bk, 24, none⟩ = some (ve5) := cell_blk ((hs'.early' 10 (by kernel_rfl) _ rfl).trans HBX.out) 24
                    go_simp
                    exact Ord.post_val rfl rfl
                  · refine Ord.owes_plain rfl fun ρ Os wo hs' hb hc' => ?_
                    have h3 : ρ (.tmp 3) = .pointer (some ⟨w.heap.size, 0, none⟩) := hs'.old' 3 (by kernel_rfl)
                    have c0 : wo.cell? ⟨w.heap.size, 0, none⟩ = some (.int .i64 k0) := cell_blk ((hb.block _ (lt_blk HX5.out) HNF.out).trans HX5.out) 0
                    have c1 : wo.cell? ⟨w.heap.size, 1, none⟩ = some (.string k1) := cell_blk ((hb.block _ (lt_blk HX5.out) HNF.out).trans HX5.out) 1
                    have c2 : wo.cell? ⟨w.heap.size, 2, none⟩ = some (.int .i64 k2) := cell_blk ((hb.block _ (lt_blk HX5.out) HNF.out).trans HX5.out) 2
                    have c3 : wo.cell? ⟨w.heap.size, 3, none⟩ = some (.int .i64 k3) := cell_blk ((hb.block _ (lt_blk HX5.out) HNF.out).trans HX5.out) 3
                    go_simp
                    exact Ord.post_val rfl rfl
                  · refine Ord.owes_plain rfl fun ρ Os wo hs' hb hc' => ?_
                    have h59 : ρ (.tmp 59) = .agg #[.int .i64 k0, .string k1, .int .i64 k2, .int .i64 k3] := hs'.val' 59 5 (by kernel_rfl) rfl
                    go_simp
                    exact Ord.post_one rfl
                  · refine Ord.owes_plain rfl fun ρ Os wo hs' hb hc' => ?_
                    have h58 : ρ (.tmp 58) = ve5 := hs'.val' 58 4 (by kernel_rfl) rfl
                    exact Ord.ok_grown Tryz.underlying44 HI.out.1 HI.out.2.1 HI.out.2.2.1 HI.out.2.2.2 rfl (by decide) h58 (hs'.new' 60 6 (by kernel_rfl)) HROW.out hs'.here rfl (by simp [Value.oneCell']) HL.out.1 HL.out.2 rfl
                  · refine Ord.owes_plain rfl fun ρ Os wo hs' hb hc' => ?_
                    have h54 : ρ (.tmp 54) = .pointer (some ⟨bk, 0, none⟩) := hs'.val' 54 0 (by kernel_rfl) rfl
                    go_simp
                    exact Ord.post_val rfl rfl
                  · refine Ord.owes_plain rfl fun ρ Os wo hs' hb hc' => ?_
                    have h62 : ρ (.tmp 62) = .pointer (some ⟨bk, 0, none⟩) := hs'.val' 62 8 (by kernel_rfl) rfl
                    go_simp
                    exact Ord.post_val rfl rfl
                  · refine Ord.owes_plain rfl fun ρ Os wo hs' hb hc' => ?_
                    have h63 : ρ (.tmp 63) = .pointer (some ⟨bk, 24, none⟩) := hs'.val' 63 9 (by kernel_rfl) rfl
                    exact Ord.ok_kept h63 (hs'.new' 61 7 (by kernel_rfl)) HBX.out (hs'.here _ rfl) (by rw [Lf.cells_size]; decide) (by decide) (fun _ => rfl) (fun _ => by kernel_rfl) rfl
                · intro vals Os ρs w' hk hkn hln hap hbd
                  obtain ⟨v', r1, r2, r3⟩ := hkn 10 (by kernel_rfl)
                  have hbd := hbd 10 (by kernel_rfl)
                  have H6 := Lib.hid (lw_evs HLW5.out hk ⟨k0, k1, k2, k3⟩ (by simpa [evCells, Ev.row] using r1) r2 (by decide))
                  have HN6 : Hid (∀ g, v'.ownBlock = some g → F5 g ∨ w5.heap.size ≤ g) := Lib.hid fun g hg => (hbd g ((r3 g).2 (.inr hg))).elim .inr (fun h => .inl (h.elim (fun e => e ▸ HLW5.out.own) (HLW5.out.fe g)))
                  have HK6 := Lib.hid (hk.mono (G := F5) (fun i _ h => h.elim (fun e => e ▸ HLW5.out.own) (HLW5.out.fe i)))
                  clear hkn hln hap hbd r1 r2 r3 hk
                  simp only [Any.putAll]
                  go_frame
                  simp only [Nat.zero_add, Nat.reduceAdd]
                  go_wp2_with fail
                  go_ret
                  rw [← HSTEP.out, step_done HOK.out HLATE.out HCAN.out HY.out (HC1.out.trans HCZ.out), HL5.out]
                  exact do_end (Keep.of_below HBB.out) HK5.out HF5.out HK6.out H6.out HN6.out
              · have tz : (c1 != 0) = true := by simp [hz]
                have HCZ := Lib.hid (show ¬ c1 = 0 from hz)
                clear hz
                go_wp2_with (first
                  | (refine Any.wpl rfl (Any.ok_dyn2 (k := thenF k0) (caps := thenC k0 p q) (v0 := .pointer (some ⟨bk, 0, none⟩)) (v1 := .agg #[.int .i64 k0, .string k1, .int .i64 k2, .int .i64 k3]) rfl rfl rfl GT.out (ST.out.mono ?_)); rintro e w5 ⟨rfl, hk5, F5, hl5, hF5⟩; refine ⟨_, rfl, ?_⟩; have HK5 := Lib.hid hk5; have HL5V := Lib.hid hl5; have HF5 := Lib.hid hF5; clear hk5 hl5 hF5 x0 x1 x2 x3 r3)
                  | fail)
                go_ret
                rw [← HSTEP.out, step_code HOK.out HLATE.out HCAN.out HY.out (by rw [HC1.out]; exact HCZ.out), HC1.out, HL5.out]
                exact ⟨rfl, (Keep.of_below (F := F) HBB.out).trans HK5.out (fun _ _ h => h), F5, HL5V.out, fun k hk => (HF5.out k hk).imp id (fun h => Nat.le_trans HBB.out.size h)⟩
            · have tY := str_no hy
              have HY : Hid (¬ k1 = l.byv k0) := Lib.hid (fun h => hy (h.trans HYV.out.symm))
              clear hy
              rw [tY] at h6
              clear tY
              rw [h6]
              go_wp2_with fail
              go_ret
              rw [← HSTEP.out, step_other HOK.out HLATE.out HCAN.out HY.out]
              exact afterL_same ⟨_, _, HLW.out⟩ HBB.out rfl
    · have HLATE : Hid (l.late ⟨k0, k1, k2, k3⟩ = true) := Lib.hid (HLT.out.symm.trans hlate)
      rw [hlate] at h15
      clear hlate
      rw [h15]
      go_wp2_with fail
      go_ret
      rw [← HSTEP.out, step_late HOK.out HLATE.out]
      exact afterL_same ⟨_, _, HLW.out⟩ HBB.out rfl
end Go.Proofs.YtbigoifpfkdkjaaGreatDoor.Sc
