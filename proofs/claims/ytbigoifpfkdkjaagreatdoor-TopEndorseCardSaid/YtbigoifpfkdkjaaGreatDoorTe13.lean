/- What the rules' other closures do to a life: present, refuse, pay, expire. The program's rules: their array, one of its rows, whether it holds. -/
import Derived.Test.YtbigoifpfkdkjaaGreatDoorTe12
import Derived.Deep.MidRow
namespace Go.Proofs.YtbigoifpfkdkjaaGreatDoor.Sc
open Go Go.RowKit Go.ChangeShapes Go.WideShapes Go.ChangeAt
set_option maxRecDepth 100000

/-- The row of what was paid has grown. -/
theorem lw_paid {w1 w' : World} {t : TypeId} {F : Nat → Prop} {bk : Nat} {l : Lf} {vp ve v' : Value} (h : LifeW w1 t F bk l vp ve) (k : Keep (fun k => k = bk ∨ vp.ownBlock = some k) w1 w') (d : Dr)
    (r1 : w'.ownsRow 0 42 2 v' (l.paid.length + 1) (drCells (l.paid ++ [d]))) (r2 : w'.heap[bk]? = some (.cells (l.cells v' ve) t (0, 0)))
    (h2 : 39 ≠ t) : LifeW w' t (fun k => F k ∨ v'.ownBlock = some k) bk { l with paid := l.paid ++ [d] } v' ve := by
  refine ⟨r2, by simpa using r1, ownsRow_keep h.evs k ?_, fun g hg => .inr hg, fun g hg => .inl (h.fe g hg), .inl h.own, ?_⟩
  · rintro g hg (rfl | hv)
    · exact row_off h.evs h.box h2 hg
    · exact rows_off h.paid h.evs (by decide) g hv hg
  · rintro g (hg | hg)
    · exact Nat.lt_of_lt_of_le (h.lt g hg) k.size
    · exact (r1.lt g hg).2
/-- The row of what happened has grown. -/
theorem lw_evs {w1 w' : World} {t : TypeId} {F : Nat → Prop} {bk : Nat} {l : Lf} {vp ve v' : Value} (h : LifeW w1 t F bk l vp ve) (k : Keep (fun k => k = bk ∨ ve.ownBlock = some k) w1 w') (d : Ev)
    (r1 : w'.ownsRow 0 39 4 v' (l.evs.length + 1) (evCells (l.evs ++ [d]))) (r2 : w'.heap[bk]? = some (.cells (l.cells vp v') t (0, 0)))
    (h1 : 42 ≠ t) : LifeW w' t (fun k => F k ∨ v'.ownBlock = some k) bk { l with evs := l.evs ++ [d] } vp v' := by
  refine ⟨r2, ownsRow_keep h.paid k ?_, by simpa using r1, fun g hg => .inl (h.fp g hg), fun g hg => .inr hg, .inl h.own, ?_⟩
  · rintro g hg (rfl | hv)
    · exact row_off h.paid h.box h1 hg
    · exact rows_off h.evs h.paid (by decide) g hv hg
  · rintro g (hg | hg)
    · exact Nat.lt_of_lt_of_le (h.lt g hg) k.size
    · exact (r1.lt g hg).2

def Lf.pay (l : Lf) : Lf := { l with paid := l.paid ++ [l.now], rp := false, st := 5 }
theorem pay_end {w w1 w' : World} {F : Nat → Prop} {bk : Nat} {l : Lf} {vp ve v' : Value} (h0 : LifeW w 116 F bk l vp ve) (hk : Keep F w w1) (hkk : Keep F w1 w')
    (h : LifeW w' 116 (fun k => F k ∨ v'.ownBlock = some k) bk { l with paid := l.paid ++ [l.now] } v' ve) (hn : ∀ g, v'.ownBlock = some g → F g ∨ w.heap.size ≤ g) :
    AfterL w 116 F 0 bk l.pay (.returned (.int .i64 0)) ((w'.setCell ⟨bk, 20, none⟩ (.bool false)).setCell ⟨bk, 18, none⟩ (.int .i64 5)) := by
  have g1 := Keep.of_grown (grown_set w' bk 20 (.bool false))
  have g2 := Keep.of_grown (grown_set (w'.setCell ⟨bk, 20, none⟩ (.bool false)) bk 18 (.int .i64 5))
  have e : ∀ i, some bk = some i → i = bk := fun i h => (Option.some.inj h).symm
  have b1 : Box (w'.setCell ⟨bk, 20, none⟩ (.bool false)) 116 bk { l with paid := l.paid ++ [l.now], rp := false } v' ve := h.box.set 20 (.bool false)
  have l1 := lw_turn h (g1.mono (fun i _ hi => e i hi)) b1 rfl rfl (by decide) (by decide)
  have b2 : Box ((w'.setCell ⟨bk, 20, none⟩ (.bool false)).setCell ⟨bk, 18, none⟩ (.int .i64 5)) 116 bk l.pay v' ve := b1.set 18 (.int .i64 5)
  have l2 := lw_turn l1 (g2.mono (fun i _ hi => e i hi)) b2 rfl rfl (by decide) (by decide)
  refine ⟨rfl, ((hk.trans hkk (fun _ _ h => h)).trans g1 (fun i _ hi => ?_)).trans g2 (fun i _ hi => ?_), _, ⟨_, _, l2⟩, fun k hk => hk.elim .inl (hn k)⟩
  · exact e i hi ▸ h0.own
  · exact e i hi ▸ h0.own

set_option maxHeartbeats 1000000 in
theorem pay_any (bk : Nat) (l : Lf) (F : Nat → Prop) (ev : Ev) (w : World) (h : Lv w 116 F bk l) (hn : l.paid.length ≤ 4000) :
    Calls Tryz.prog 113 #[.pointer (some ⟨bk, 0, none⟩), .agg ev.cells] w (AfterL w 116 F 0 bk l.pay) := by
  obtain ⟨vp, ve, hw⟩ := h
  simp only [Ev.cells]
  generalize ev.kind = k0 at *
  generalize ev.party = k1 at *
  generalize ev.day = k2 at *
  generalize ev.amt = k3 at *
  obtain ⟨i0, hi, hz, hsz, hby⟩ := info_parts infoDr
  have HI := Lib.hid (And.intro hi (And.intro hz (And.intro hsz hby)))
  clear hi hz hsz hby
  have HLW0 := Lib.hid hw
  have HLW := Lib.hid (hw.below (one_below w (.cells #[.int .i64 k0, .string k1, .int .i64 k2, .int .i64 k3] 39)))
  have HK := Lib.hid (Keep.alloc F w (.cells #[.int .i64 k0, .string k1, .int .i64 k2, .int .i64 k3] 39))
  have HBX : Hid ((w.alloc (.cells #[.int .i64 k0, .string k1, .int .i64 k2, .int .i64 k3] 39)).heap[bk]? = some (.cells (l.cells vp ve) 116 (0, 0))) := Lib.hid HLW.out.box
  have HROW := Lib.hid HLW.out.paid
  have HNE : Hid (∀ k, vp.ownBlock = some k → ¬ k = bk) := Lib.hid fun k hk e => row_off HLW.out.paid HLW.out.box (by decide) (e ▸ hk)
  have HL : Hid (l.paid.length + 1 ≤ maxLen ∧ (l.paid.length + 1) * 16 ≤ 140737488355328) := Lib.hid (by simp only [maxLen]; omega)
  clear hw hn
  go_enter Tryz.func113, Tryz.ntmps113
  go_wp2_with fail
  refine Ord.region_lit (fun
    | 0 => Ord.val (.pointer (some ⟨bk, 0, none⟩))
    | 1 => Ord.val (.pointer (some ⟨bk, 0, none⟩))
    | 2 => Ord.val (.pointer (some ⟨bk, 0, none⟩))
    | 3 => Ord.val (.pointer (some ⟨bk, 23, none⟩))
    | 4 => Ord.val (vp)
    | 5 => Ord.val (.pointer (some ⟨bk, 0, none⟩))
    | 6 => Ord.val (.pointer (some ⟨bk, 0, none⟩))
    | 7 => Ord.val (.pointer (some ⟨bk, 21, none⟩))
    | 8 => Ord.val (.agg #[.int .i64 l.now.day, .int .i64 l.now.amt])
    | 9 => Ord.one 42 #[.int .i64 l.now.day, .int .i64 l.now.amt]
    | 10 => Ord.grown 42 2 (l.paid.length + 1) (drCells l.paid ++ [.int .i64 l.now.day, .int .i64 l.now.amt]) 9 (vp)
    | 11 => Ord.val (.pointer (some ⟨bk, 0, none⟩))
    | 12 => Ord.val (.pointer (some ⟨bk, 23, none⟩))
    | 13 => Ord.kept 42 2 (l.paid.length + 1) (drCells l.paid ++ [.int .i64 l.now.day, .int .i64 l.now.amt]) (bk) (fun v => l.cells v ve) 116 10
    | _ => Ord.idle) (fun k => k = bk ∨ (vp).ownBlock = some k) (by kernel_rfl) (by kernel_rfl) (by kernel_rfl) ?_ ?_ ?_ ?_
  · intro i _
    match i with
    | 0 => exact Ord.lasts_val _
    | 1 => exact Ord.lasts_val _
    | 2 => exact Ord.lasts_val _
    | 3 => exact Ord.lasts_val _
    | 4 => exact Ord.lasts_val _
    | 5 => exact Ord.lasts_val _
    | 6 => exact Ord.lasts_val _
    | 7 => exact Ord.lasts_val _
    | 8 => exact Ord.lasts_val _
    | 9 => exact Ord.lasts_one _ _
    | 10 => exact Ord.lasts_grown _ _ _ _ _ _
    | 11 => exact Ord.lasts_val _
    | 12 => exact Ord.lasts_val _
    | 13 => exact Ord.lasts_kept _ _ _ _ _ _ _ _
    | n + 14 => exact Ord.lasts_idle
  · refine ⟨fun k b _ hh => ?_, fun k b _ hh => ?_, fun k k' b _ _ hne h1 h2 => ?_⟩
    · match k, hh with
      | 0, hh => exact hh.elim
      | 1, hh => exact hh.elim
      | 2, hh => exact hh.elim
      | 3, hh => exact hh.elim
      | 4, hh => exact hh.elim
      | 5, hh => exact hh.elim
      | 6, hh => exact hh.elim
      | 7, hh => exact hh.elim
      | 8, hh => exact hh.elim
      | 9, hh => exact hh.elim
      | 10, hh => exact .inr hh
      | 11, hh => exact hh.elim
      | 12, hh => exact hh.elim
      | 13, hh => exact .inl hh
      | m + 14, hh => exact hh.elim
    · match k, hh with
      | 0, hh => exact hh.elim
      | 1, hh => exact hh.elim
      | 2, hh => exact hh.elim
      | 3, hh => exact hh.elim
      | 4, hh => exact hh.elim
      | 5, hh => exact hh.elim
      | 6, hh => exact hh.elim
      | 7, hh => exact hh.elim
      | 8, hh => exact hh.elim
      | 9, hh => exact hh.elim
      | 10, hh => exact (HROW.out.lt b hh).2
      | 11, hh => exact hh.elim
      | 12, hh => exact hh.elim
      | 13, hh => exact hh ▸ lt_blk HBX.out
      | m + 14, hh => exact hh.elim
    · have a : (k = 10 ∧ (fun k => (vp).ownBlock = some k) b) ∨ (k = 13 ∧ (fun k => k = bk) b) := by
        match k, h1 with
        | 0, hh => exact hh.elim
        | 1, hh => exact hh.elim
        | 2, hh => exact hh.elim
        | 3, hh => exact hh.elim
        | 4, hh => exact hh.elim
        | 5, hh => exact hh.elim
        | 6, hh => exact hh.elim
        | 7, hh => exact hh.elim
        | 8, hh => exact hh.elim
        | 9, hh => exact hh.elim
        | 10, hh => exact .inl ⟨rfl, hh⟩
        | 11, hh => exact hh.elim
        | 12, hh => exact hh.elim
        | 13, hh => exact Or.inr (⟨rfl, hh⟩)
        | m + 14, hh => exact hh.elim
      have a' : (k' = 10 ∧ (fun k => (vp).ownBlock = some k) b) ∨ (k' = 13 ∧ (fun k => k = bk) b) := by
        match k', h2 with
        | 0, hh => exact hh.elim
        | 1, hh => exact hh.elim
        | 2, hh => exact hh.elim
        | 3, hh => exact hh.elim
        | 4, hh => exact hh.elim
        | 5, hh => exact hh.elim
        | 6, hh => exact hh.elim
        | 7, hh => exact hh.elim
        | 8, hh => exact hh.elim
        | 9, hh => exact hh.elim
        | 10, hh => exact .inl ⟨rfl, hh⟩
        | 11, hh => exact hh.elim
        | 12, hh => exact hh.elim
        | 13, hh => exact Or.inr (⟨rfl, hh⟩)
        | m + 14, hh => exact hh.elim
      rcases a with ⟨rfl, a⟩ | ⟨rfl, a⟩ <;> rcases a' with ⟨rfl, a'⟩ | ⟨rfl, a'⟩
      all_goals first | exact absurd rfl hne | (first | exact HNE.out _ a a' | exact HNE.out _ a' a)
  · refine ⟨?_, ?_, ?_, ?_, ?_, ?_, ?_, ?_, ?_, ?_, ?_, ?_, ?_, ?_, trivial⟩
    · refine Ord.owes_plain rfl fun ρ Os wo hs' hb hc' => ?_
      have h0 : ρ (.tmp 0) = .pointer (some ⟨bk, 0, none⟩) := hs'.old' 0 (by kernel_rfl)
      exact Any.ok_move (Ord.post_val rfl h0)
    · refine Ord.owes_plain rfl fun ρ Os wo hs' hb hc' => ?_
      have h0 : ρ (.tmp 0) = .pointer (some ⟨bk, 0, none⟩) := hs'.old' 0 (by kernel_rfl)
      exact Any.ok_move (Ord.post_val rfl h0)
    · refine Ord.owes_plain rfl fun ρ Os wo hs' hb hc' => ?_
      have h6 : ρ (.tmp 6) = .pointer (some ⟨bk, 0, none⟩) := hs'.val' 6 1 (by kernel_rfl) rfl
      go_simp
      exact Ord.post_val rfl rfl
    · refine Ord.owes_plain rfl fun ρ Os wo hs' hb hc' => ?_
      have h7 : ρ (.tmp 7) = .pointer (some ⟨bk, 0, none⟩) := hs'.val' 7 2 (by kernel_rfl) rfl
      go_simp
      exact Ord.post_val rfl rfl
    · refine Ord.owes_plain rfl fun ρ Os wo hs' hb hc' => ?_
      have h8 : ρ (.tmp 8) = .pointer (some ⟨bk, 23, none⟩) := hs'.val' 8 3 (by kernel_rfl) rfl
      have c0 : wo.cell? ⟨bk, 23, none⟩ = some (vp) := cell_blk ((hs'.early' 13 (by kernel_rfl) _ rfl).trans HBX.out) 23
      go_simp
      exact Ord.post_val rfl rfl
    · refine Ord.owes_plain rfl fun ρ Os wo hs' hb hc' => ?_
      have h0 : ρ (.tmp 0) = .pointer (some ⟨bk, 0, none⟩) := hs'.old' 0 (by kernel_rfl)
      exact Any.ok_move (Ord.post_val rfl h0)
    · refine Ord.owes_plain rfl fun ρ Os wo hs' hb hc' => ?_
      have h10 : ρ (.tmp 10) = .pointer (some ⟨bk, 0, none⟩) := hs'.val' 10 5 (by kernel_rfl) rfl
      go_simp
      exact Ord.post_val rfl rfl
    · refine Ord.owes_plain rfl fun ρ Os wo hs' hb hc' => ?_
      have h11 : ρ (.tmp 11) = .pointer (some ⟨bk, 0, none⟩) := hs'.val' 11 6 (by kernel_rfl) rfl
      go_simp
      exact Ord.post_val rfl rfl
    · refine Ord.owes_plain rfl fun ρ Os wo hs' hb hc' => ?_
      have h12 : ρ (.tmp 12) = .pointer (some ⟨bk, 21, none⟩) := hs'.val' 12 7 (by kernel_rfl) rfl
      have c0 : wo.cell? ⟨bk, 21, none⟩ = some (.int .i64 l.now.day) := cell_blk ((hs'.early' 13 (by kernel_rfl) _ rfl).trans HBX.out) 21
      have c1 : wo.cell? ⟨bk, 22, none⟩ = some (.int .i64 l.now.amt) := cell_blk ((hs'.early' 13 (by kernel_rfl) _ rfl).trans HBX.out) 22
      go_simp
      exact Ord.post_val rfl rfl
    · refine Ord.owes_plain rfl fun ρ Os wo hs' hb hc' => ?_
      have h13 : ρ (.tmp 13) = .agg #[.int .i64 l.now.day, .int .i64 l.now.amt] := hs'.val' 13 8 (by kernel_rfl) rfl
      go_simp
      exact Ord.post_one rfl
    · refine Ord.owes_plain rfl fun ρ Os wo hs' hb hc' => ?_
      have h9 : ρ (.tmp 9) = vp := hs'.val' 9 4 (by kernel_rfl) rfl
      exact Ord.ok_grown Tryz.underlying40 HI.out.1 HI.out.2.1 HI.out.2.2.1 HI.out.2.2.2 rfl (by decide) h9 (hs'.new' 14 9 (by kernel_rfl)) HROW.out hs'.here rfl (by simp [Value.oneCell']) HL.out.1 HL.out.2 rfl
    · refine Ord.owes_plain rfl fun ρ Os wo hs' hb hc' => ?_
      have h5 : ρ (.tmp 5) = .pointer (some ⟨bk, 0, none⟩) := hs'.val' 5 0 (by kernel_rfl) rfl
      go_simp
      exact Ord.post_val rfl rfl
    · refine Ord.owes_plain rfl fun ρ Os wo hs' hb hc' => ?_
      have h16 : ρ (.tmp 16) = .pointer (some ⟨bk, 0, none⟩) := hs'.val' 16 11 (by kernel_rfl) rfl
      go_simp
      exact Ord.post_val rfl rfl
    · refine Ord.owes_plain rfl fun ρ Os wo hs' hb hc' => ?_
      have h17 : ρ (.tmp 17) = .pointer (some ⟨bk, 23, none⟩) := hs'.val' 17 12 (by kernel_rfl) rfl
      exact Ord.ok_kept h17 (hs'.new' 15 10 (by kernel_rfl)) HBX.out (hs'.here _ rfl) (by rw [Lf.cells_size]; decide) (by decide) (fun _ => rfl) (fun _ => by kernel_rfl) rfl
  · intro vals Os ρs w' hk hkn hln hap hbd
    obtain ⟨v', r1, r2, r3⟩ := hkn 13 (by kernel_rfl)
    have hbd := hbd 13 (by kernel_rfl)
    have H := Lib.hid (lw_paid HLW.out hk l.now (by simpa [drCells, Dr.row] using r1) r2 (by decide))
    have hn : ∀ g, v'.ownBlock = some g → F g ∨ w.heap.size ≤ g := fun g hg => (hbd g ((r3 g).2 (.inr hg))).elim (fun h => .inr (Nat.le_trans (by simp) h)) (fun h => .inl (h.elim (fun e => e ▸ HLW.out.own) (HLW.out.fp g)))
    have HN := Lib.hid hn
    have HKK := Lib.hid (hk.mono (G := F) (fun i _ h => h.elim (fun e => e ▸ HLW.out.own) (HLW.out.fp i)))
    have d20 : w'.cell? ⟨bk, 20, none⟩ = some (.bool l.rp) := cell_blk r2 20
    have d18 : w'.cell? ⟨bk, 18, none⟩ = some (.int .i64 l.st) := cell_blk r2 18
    have f20 : w'.frozen? ⟨bk, 20, none⟩ = false := free_blk r2 20
    have f18 : w'.frozen? ⟨bk, 18, none⟩ = false := free_blk r2 18
    clear hkn hln hap hbd hn r1 r2 r3 hk
    go_wp2_with fail
    go_ret
    exact pay_end HLW0.out HK.out HKK.out H.out HN.out

/-- The credit loaded out of a life's box. -/
theorem run_life_credit {w : World} {g : Nat} {l : Lf} {vp ve : Value} {t : TypeId} (hg : w.heap[g]? = some (.cells (l.cells vp ve) t (0, 0))) : (loadVar 30 ⟨g, 0, none⟩).run Tryz.prog w = .ok (.agg l.c.cells) w := by
  obtain ⟨fs, hu⟩ := cr_under
  have hr : w.rangeAt g 0 l.c.cells.toList := by
    intro j v hv
    have hj : j < 18 := by
      have := (List.getElem?_eq_some_iff.1 hv).1
      simpa [Cr.cells_size] using this
    rw [Nat.zero_add, cell_blk hg, ← hv, ← Lf.credit l vp ve]
    simp only [Array.toList_extract, List.extract_eq_take_drop, List.drop_zero, Nat.sub_zero]
    rw [List.getElem?_take_of_lt hj, Array.getElem?_toList]
  have h := run_loadVar_mid (P := Tryz.prog) w g 0 30 l.c.cells.toList _ hr hu rfl (by rw [cr_info]; rfl)
  simpa using h
theorem ok_load_life {dst : Option Tmp} {t : TypeId} {pos : String} {after : Array Edge} {gd : Option (Nat × Bool)} {ρ : Operand → Value} {w : World} {R : Value → World → Prop} {x : Operand} {g : Nat} {l : Lf} {vp ve : Value} {t' : TypeId}
    (hx : ρ x = .pointer (some ⟨g, 0, none⟩)) (hg : w.heap[g]? = some (.cells (l.cells vp ve) t' (0, 0))) (h : R (.agg l.c.cells) w) : Any.OpOk Tryz.prog ⟨dst, .load 30 x, t, pos, after, gd⟩ ρ w R := by
  unfold Any.OpOk
  simp only [execOp, hx, Instr.loadAt, Instr.sureAddr, Sem.run_bind, Sem.run_pure, Result.andThen_ok, run_life_credit hg]
  exact h

def Lf.expire (l : Lf) : Lf := { l with st := 7 }
theorem expire_any (bk : Nat) (l : Lf) (F : Nat → Prop) (ev : Ev) (w : World) (h : Lv w 116 F bk l) :
    Calls Tryz.prog 115 #[.pointer (some ⟨bk, 0, none⟩), .agg ev.cells] w (AfterL w 116 F (if ev.day ≤ l.c.expiry then 3 else 0) bk (if ev.day ≤ l.c.expiry then l else l.expire)) := by
  obtain ⟨vp, ve, hw⟩ := h
  simp only [Ev.cells]
  have HW := Lib.hid hw
  have HB := Lib.hid (hw.box.below (one_below w (.cells #[.int .i64 ev.kind, .string ev.party, .int .i64 ev.day, .int .i64 ev.amt] 39)))
  have HK := Lib.hid (Keep.alloc (fun x => x = bk) w (.cells #[.int .i64 ev.kind, .string ev.party, .int .i64 ev.day, .int .i64 ev.amt] 39))
  have HO := Lib.hid (one_below w (.cells #[.int .i64 ev.kind, .string ev.party, .int .i64 ev.day, .int .i64 ev.amt] 39))
  have hlt := lt_blk hw.box
  have d12 : (w.alloc (.cells #[.int .i64 ev.kind, .string ev.party, .int .i64 ev.day, .int .i64 ev.amt] 39)).cell? ⟨bk, 12, none⟩ = some (.int .i64 l.c.expiry) := HB.out.cell 12
  have d18 : (w.alloc (.cells #[.int .i64 ev.kind, .string ev.party, .int .i64 ev.day, .int .i64 ev.amt] 39)).cell? ⟨bk, 18, none⟩ = some (.int .i64 l.st) := HB.out.cell 18
  have f18 : (w.alloc (.cells #[.int .i64 ev.kind, .string ev.party, .int .i64 ev.day, .int .i64 ev.amt] 39)).frozen? ⟨bk, 18, none⟩ = false := free_blk HB.out 18
  clear hw
  by_cases hd : ev.day ≤ l.c.expiry
  · rw [if_pos hd, if_pos hd]
    have t1 : decide (ev.day ≤ l.c.expiry) = true := decide_eq_true hd
    clear hd
    generalize ev.kind = k0 at *
    generalize ev.party = k1 at *
    generalize ev.day = k2 at *
    generalize ev.amt = k3 at *
    go_enter Tryz.func115, Tryz.ntmps115
    go_wp2_with fail
    go_quiet (fail)
    go_wp2_with fail
    go_ret
    exact afterL_same ⟨vp, ve, HW.out⟩ (below_drewN HO.out nq) rfl
  · rw [if_neg hd, if_neg hd]
    have t1 : decide (ev.day ≤ l.c.expiry) = false := decide_eq_false hd
    clear hd
    generalize ev.kind = k0 at *
    generalize ev.party = k1 at *
    generalize ev.day = k2 at *
    generalize ev.amt = k3 at *
    go_enter Tryz.func115, Tryz.ntmps115
    go_wp2_with fail
    go_quiet (fail)
    go_wp2_with fail
    go_ret
    have HB2 : Box ((w.alloc (.cells #[.int .i64 k0, .string k1, .int .i64 k2, .int .i64 k3] 39)).drewN nq) 116 bk l vp ve := HB.out
    exact did_after HW.out ⟨rfl, (HK.out.trans (Keep.drew (fun x => x = bk) _ nq) (fun _ _ h => h)).trans (Keep.of_grown (grown_set _ bk 18 _)) (fun i _ h => (Option.some.inj h).symm), HB2.set 18 (.int .i64 7)⟩ rfl rfl

theorem Box.set_raw {w : World} {t : TypeId} {b : Nat} {cs : Array Value} (h : w.heap[b]? = some (.cells cs t (0, 0))) (o : Nat) (u : Value) : (w.setCell ⟨b, o, none⟩ u).heap[b]? = some (.cells (cs.setIfInBounds o u) t (0, 0)) := by
  simp [World.setCell, Array.getElem?_modify, h]
def Lf.refuse (l : Lf) : Lf := { l with now := ⟨0, 0⟩, st := 3 }
theorem refuse_box {w : World} {t : TypeId} {b : Nat} {l : Lf} {vp ve : Value} (h : Box w t b l vp ve) : Box (((w.setCell ⟨b, 21, none⟩ (.int .i64 0)).setCell ⟨b, 22, none⟩ (.int .i64 0)).setCell ⟨b, 18, none⟩ (.int .i64 3)) t b l.refuse vp ve :=
  Box.set_raw (Box.set_raw (Box.set_raw h 21 (.int .i64 0)) 22 (.int .i64 0)) 18 (.int .i64 3)
theorem refuse_any (bk : Nat) (l : Lf) (F : Nat → Prop) (ev : Ev) (w : World) (h : Lv w 116 F bk l) :
    Calls Tryz.prog 112 #[.pointer (some ⟨bk, 0, none⟩), .agg ev.cells] w (AfterL w 116 F 0 bk l.refuse) := by
  obtain ⟨vp, ve, hw⟩ := h
  simp only [Ev.cells]
  have HW := Lib.hid hw
  have HB := Lib.hid (hw.box.below (one_below w (.cells #[.int .i64 ev.kind, .string ev.party, .int .i64 ev.day, .int .i64 ev.amt] 39)))
  have HK := Lib.hid (Keep.alloc (fun x => x = bk) w (.cells #[.int .i64 ev.kind, .string ev.party, .int .i64 ev.day, .int .i64 ev.amt] 39))
  have d21 : (w.alloc (.cells #[.int .i64 ev.kind, .string ev.party, .int .i64 ev.day, .int .i64 ev.amt] 39)).cell? ⟨bk, 21, none⟩ = some (.int .i64 l.now.day) := HB.out.cell 21
  have d22 : (w.alloc (.cells #[.int .i64 ev.kind, .string ev.party, .int .i64 ev.day, .int .i64 ev.amt] 39)).cell? ⟨bk, 22, none⟩ = some (.int .i64 l.now.amt) := HB.out.cell 22
  have d18 : (w.alloc (.cells #[.int .i64 ev.kind, .string ev.party, .int .i64 ev.day, .int .i64 ev.amt] 39)).cell? ⟨bk, 18, none⟩ = some (.int .i64 l.st) := HB.out.cell 18
  have f18 : (w.alloc (.cells #[.int .i64 ev.kind, .string ev.party, .int .i64 ev.day, .int .i64 ev.amt] 39)).frozen? ⟨bk, 18, none⟩ = false := free_blk HB.out 18
  have f21 : (w.alloc (.cells #[.int .i64 ev.kind, .string ev.party, .int .i64 ev.day, .int .i64 ev.amt] 39)).frozen? ⟨bk, 21, none⟩ = false := free_blk HB.out 21
  have f22 : (w.alloc (.cells #[.int .i64 ev.kind, .string ev.party, .int .i64 ev.day, .int .i64 ev.amt] 39)).frozen? ⟨bk, 22, none⟩ = false := free_blk HB.out 22
  clear hw
  generalize ev.kind = k0 at *
  generalize ev.party = k1 at *
  generalize ev.day = k2 at *
  generalize ev.amt = k3 at *
  go_enter Tryz.func112, Tryz.ntmps112
  go_wp2_with fail
  go_ret
  have e : ∀ (i : Nat), some bk = some i → i = bk := fun i h => (Option.some.inj h).symm
  exact did_after HW.out ⟨rfl, ((HK.out.trans (Keep.of_grown (grown_set _ bk 21 _)) (fun i _ h => e i h)).trans (Keep.of_grown (grown_set _ bk 22 _)) (fun i _ h => e i h)).trans (Keep.of_grown (grown_set _ bk 18 _)) (fun i _ h => e i h),
    refuse_box HB.out⟩ rfl rfl

def Lf.present (l : Lf) (d : Dr) : Lf := { l with now := d, st := 2 }
theorem present_box {w : World} {t : TypeId} {b : Nat} {l : Lf} {vp ve : Value} (d : Dr) (h : Box w t b l vp ve) : Box (((w.setCell ⟨b, 21, none⟩ (.int .i64 d.day)).setCell ⟨b, 22, none⟩ (.int .i64 d.amt)).setCell ⟨b, 18, none⟩ (.int .i64 2)) t b (l.present d) vp ve :=
  Box.set_raw (Box.set_raw (Box.set_raw h 21 (.int .i64 d.day)) 22 (.int .i64 d.amt)) 18 (.int .i64 2)
set_option maxHeartbeats 1000000 in
theorem present_any (bk : Nat) (l : Lf) (F : Nat → Prop) (ev : Ev) (w : World) (h : Lv w 116 F bk l) :
    Calls Tryz.prog 111 #[.pointer (some ⟨bk, 0, none⟩), .agg ev.cells] w (AfterL w 116 F (mayCode l.c l.paid ⟨ev.day, ev.amt⟩) bk (if mayCode l.c l.paid ⟨ev.day, ev.amt⟩ = 0 then l.present ⟨ev.day, ev.amt⟩ else l)) := by
  obtain ⟨vp, ve, hw⟩ := h
  simp only [Ev.cells]
  generalize ev.kind = k0 at *
  generalize ev.party = k1 at *
  generalize ev.day = k2 at *
  generalize ev.amt = k3 at *
  have HW := Lib.hid hw
  have HO : Hid (Below w.heap.size w ((w.alloc (.cells #[.int .i64 k0, .string k1, .int .i64 k2, .int .i64 k3] 39)).alloc (.cells #[.int .i64 k2, .int .i64 k3] 42))) := Lib.hid (((Below.refl _ _).alloc (Nat.le_refl _) _).alloc (by simp) _)
  have HB := Lib.hid (hw.box.below HO.out)
  have HSL := Lib.hid ((own_draws hw.paid rfl).below HO.out (Nat.le_refl _))
  have HD : Hid (((w.alloc (.cells #[.int .i64 k0, .string k1, .int .i64 k2, .int .i64 k3] 39)).alloc (.cells #[.int .i64 k2, .int .i64 k3] 42)).heap[w.heap.size + 1]? = some (.cells #[.int .i64 k2, .int .i64 k3] 42 (0, 0))) := Lib.hid (by have := heap_alloc_new (w.alloc (.cells #[.int .i64 k0, .string k1, .int .i64 k2, .int .i64 k3] 39)) (.cells #[.int .i64 k2, .int .i64 k3] 42); simpa using this)
  have SM := Lib.hid (fun W (h : Sl W 2 vp (l.paid.map Dr.row)) => May_any l.c l.paid ⟨k2, k3⟩ vp W h)
  clear hw
  generalize hm : mayCode l.c l.paid ⟨k2, k3⟩ = m at *
  clear hm
  generalize hl : (if m = 0 then l.present ⟨k2, k3⟩ else l) = l'
  have HL := Lib.hid hl
  clear hl
  go_enter Tryz.func111, Tryz.ntmps111
  go_wp2_with fail
  refine Any.region_lit (fun
    | 0 => Any.val (.pointer (some ⟨bk, 0, none⟩))
    | 1 => Any.val (.pointer (some ⟨bk, 0, none⟩))
    | 2 => Any.val (.pointer (some ⟨bk, 0, none⟩))
    | 3 => Any.val (.agg l.c.cells)
    | 4 => Any.val (.pointer (some ⟨bk, 0, none⟩))
    | 5 => Any.val (.pointer (some ⟨bk, 0, none⟩))
    | 6 => Any.val (.pointer (some ⟨bk, 23, none⟩))
    | 7 => Any.val (vp)
    | 8 => Any.val (.agg #[.int .i64 k2, .int .i64 k3])
    | 9 => Any.val (.int .i64 m)
    | 10 => Any.val (.int .i64 m)
    | _ => Any.idle) (by kernel_rfl) (by kernel_rfl) (by kernel_rfl) ?_ ?_ ?_
  · intro i _
    match i with
    | 0 => exact Any.lasts_val _
    | 1 => exact Any.lasts_val _
    | 2 => exact Any.lasts_val _
    | 3 => exact Any.lasts_val _
    | 4 => exact Any.lasts_val _
    | 5 => exact Any.lasts_val _
    | 6 => exact Any.lasts_val _
    | 7 => exact Any.lasts_val _
    | 8 => exact Any.lasts_val _
    | 9 => exact Any.lasts_val _
    | 10 => exact Any.lasts_val _
    | n + 11 => exact Any.lasts_idle
  · refine ⟨?_, ?_, ?_, ?_, ?_, ?_, ?_, ?_, ?_, ?_, ?_, trivial⟩
    · refine Any.owes_plain rfl fun ρ wo hs' hb hc' => ?_
      have h0 : ρ (.tmp 0) = .pointer (some ⟨bk, 0, none⟩) := hs'.old' 0 (by kernel_rfl)
      exact Any.ok_move (Any.post_val hb rfl h0)
    · refine Any.owes_plain rfl fun ρ wo hs' hb hc' => ?_
      have h12 : ρ (.tmp 12) = .pointer (some ⟨bk, 0, none⟩) := hs'.new' 12 0 (by kernel_rfl)
      go_simp
      exact Any.post_val hb rfl rfl
    · refine Any.owes_plain rfl fun ρ wo hs' hb hc' => ?_
      have h13 : ρ (.tmp 13) = .pointer (some ⟨bk, 0, none⟩) := hs'.new' 13 1 (by kernel_rfl)
      go_simp
      exact Any.post_val hb rfl rfl
    · refine Any.owes_plain rfl fun ρ wo hs' hb hc' => ?_
      have h14 : ρ (.tmp 14) = .pointer (some ⟨bk, 0, none⟩) := hs'.new' 14 2 (by kernel_rfl)
      exact ok_load_life h14 (blk hb (lt_blk HB.out) HB.out) (Any.post_val hb rfl rfl)
    · refine Any.owes_plain rfl fun ρ wo hs' hb hc' => ?_
      have h0 : ρ (.tmp 0) = .pointer (some ⟨bk, 0, none⟩) := hs'.old' 0 (by kernel_rfl)
      exact Any.ok_move (Any.post_val hb rfl h0)
    · refine Any.owes_plain rfl fun ρ wo hs' hb hc' => ?_
      have h16 : ρ (.tmp 16) = .pointer (some ⟨bk, 0, none⟩) := hs'.new' 16 4 (by kernel_rfl)
      go_simp
      exact Any.post_val hb rfl rfl
    · refine Any.owes_plain rfl fun ρ wo hs' hb hc' => ?_
      have h17 : ρ (.tmp 17) = .pointer (some ⟨bk, 0, none⟩) := hs'.new' 17 5 (by kernel_rfl)
      go_simp
      exact Any.post_val hb rfl rfl
    · refine Any.owes_plain rfl fun ρ wo hs' hb hc' => ?_
      have h18 : ρ (.tmp 18) = .pointer (some ⟨bk, 23, none⟩) := hs'.new' 18 6 (by kernel_rfl)
      have c0 : wo.cell? ⟨bk, 23, none⟩ = some (vp) := cell_blk (blk hb (lt_blk HB.out) HB.out) 23
      go_simp
      exact Any.post_val hb rfl rfl
    · refine Any.owes_plain rfl fun ρ wo hs' hb hc' => ?_
      have h5 : ρ (.tmp 5) = .pointer (some ⟨w.heap.size + 1, 0, none⟩) := hs'.old' 5 (by kernel_rfl)
      have c0 : wo.cell? ⟨w.heap.size + 1, 0, none⟩ = some (.int .i64 k2) := cell_blk (blk hb (lt_blk HD.out) HD.out) 0
      have c1 : wo.cell? ⟨w.heap.size + 1, 1, none⟩ = some (.int .i64 k3) := cell_blk (blk hb (lt_blk HD.out) HD.out) 1
      go_simp
      exact Any.post_val hb rfl rfl
    · refine Any.owes_plain rfl fun ρ wo hs' hb hc' => ?_
      have h15 : ρ (.tmp 15) = .agg l.c.cells := hs'.new' 15 3 (by kernel_rfl)
      have h19 : ρ (.tmp 19) = vp := hs'.new' 19 7 (by kernel_rfl)
      have h20 : ρ (.tmp 20) = .agg #[.int .i64 k2, .int .i64 k3] := hs'.new' 20 8 (by kernel_rfl)
      have hf := hs'.func 10
      go_simp
      exact (SM.out wo (HSL.out.below (below_undrew hb) (Nat.le_refl _))).mono fun e w' ⟨he, hb'⟩ => ⟨_, he, Any.post_vals hb rfl rfl hb'⟩
    · refine Any.owes_plain rfl fun ρ wo hs' hb hc' => ?_
      have h21 : ρ (.tmp 21) = .int .i64 m := hs'.new' 21 9 (by kernel_rfl)
      exact Any.ok_assign (Any.post_val hb rfl h21)
  · intro vals w' hb hk ha
    have h10 : vals 10 = .int .i64 m := hk 10 (by kernel_rfl)
    have HO2 := Lib.hid (HO.out.trans (hb.mono HO.out.size))
    have HB2 : Hid (Box w' 116 bk l vp ve) := Lib.hid (blk hb (lt_blk HB.out) HB.out)
    have HD2 := Lib.hid (blk hb (lt_blk HD.out) HD.out)
    have c0 : w'.cell? ⟨w.heap.size + 1, 0, none⟩ = some (.int .i64 k2) := cell_blk HD2.out 0
    have c1 : w'.cell? ⟨w.heap.size + 1, 1, none⟩ = some (.int .i64 k3) := cell_blk HD2.out 1
    have d21 : w'.cell? ⟨bk, 21, none⟩ = some (.int .i64 l.now.day) := HB2.out.cell 21
    have d22 : w'.cell? ⟨bk, 22, none⟩ = some (.int .i64 l.now.amt) := HB2.out.cell 22
    have d18 : w'.cell? ⟨bk, 18, none⟩ = some (.int .i64 l.st) := HB2.out.cell 18
    have f21 : w'.frozen? ⟨bk, 21, none⟩ = false := free_blk HB2.out 21
    have f22 : w'.frozen? ⟨bk, 22, none⟩ = false := free_blk HB2.out 22
    have f18 : w'.frozen? ⟨bk, 18, none⟩ = false := free_blk HB2.out 18
    clear hk ha hb
    by_cases hm : m = 0
    · have tm : (m != 0) = false := by simp [hm]
      have HM := Lib.hid hm
      clear hm
      go_wp2_with fail
      go_ret
      rw [← HL.out, if_pos HM.out]
      have e : ∀ (i : Nat), some bk = some i → i = bk := fun i h => (Option.some.inj h).symm
      exact did_after HW.out ⟨by rw [HM.out]; rfl, (((Keep.of_below HO2.out).trans (Keep.of_grown (grown_set _ bk 21 _)) (fun i _ h => e i h)).trans (Keep.of_grown (grown_set _ bk 22 _)) (fun i _ h => e i h)).trans (Keep.of_grown (grown_set _ bk 18 _)) (fun i _ h => e i h),
        present_box ⟨k2, k3⟩ HB2.out⟩ rfl rfl
    · have tm : (m != 0) = true := by simp [hm]
      have HM := Lib.hid (show ¬ m = 0 from hm)
      clear hm
      go_wp2_with fail
      go_ret
      rw [← HL.out, if_neg HM.out]
      exact afterL_same ⟨vp, ve, HW.out⟩ HO2.out rfl
end Go.Proofs.YtbigoifpfkdkjaaGreatDoor.Sc
namespace Go.Proofs.YtbigoifpfkdkjaaGreatDoor.Sc
open Go Go.RowKit Go.ChangeShapes Go.WideShapes Go.ChangeAt
set_option maxRecDepth 100000

/-- What `to` makes. -/
def MadeTo (w : World) (x : Int) (e : Ending) (w' : World) : Prop := ∃ b, e = .returned (.func (.func 160) #[] #[.pointer (some ⟨b, 0, none⟩)]) ∧ Below w.heap.size w w' ∧ w.heap.size ≤ b ∧ w'.heap[b]? = some (.cells #[.int .i64 x] 3 (0, 0))
theorem mkto_any (x : Int) (w : World) : Calls Tryz.prog 109 #[.int .i64 x] w (MadeTo w x) := by
  go_enter Tryz.func109, Tryz.ntmps109
  go_wp2
  go_ret
  exact ⟨w.heap.size, rfl, one_below _ _, Nat.le_refl _, heap_alloc_new _ _⟩

/-- The function values of a rule. -/
def fnV (k : FuncId) : Value := .func (.func k) #[] #[]
def toV (p : Nat) : Value := .func (.func 160) #[] #[.pointer (some ⟨p, 0, none⟩)]
def rulesRow (p q : Nat) : Array Value := #[
  .int .i64 1, fnV 107, fnV 108, toV p,
  .int .i64 2, fnV 104, fnV 105, fnV 110,
  .int .i64 74, fnV 107, fnV 106, fnV 111,
  .int .i64 4, fnV 107, fnV 55, fnV 112,
  .int .i64 4, fnV 107, fnV 55, toV q,
  .int .i64 16, fnV 107, fnV 55, fnV 113,
  .int .i64 32, fnV 107, fnV 56, fnV 114,
  .int .i64 75, fnV 107, fnV 108, fnV 115]
def stOf (k : Int) : Int := if k = 0 then 1 else if k = 1 then 2 else if k = 2 then 74 else if k = 3 then 4 else if k = 4 then 4 else if k = 5 then 16 else if k = 6 then 32 else 75
def mayF (k : Int) : FuncId := if k = 1 then 104 else 107
def byF (k : Int) : FuncId := if k = 0 ∨ k = 7 then 108 else if k = 1 then 105 else if k = 2 then 106 else if k = 6 then 56 else 55
def thenV (k : Int) (p q : Nat) : Value := if k = 0 then toV p else if k = 4 then toV q else if k = 1 then fnV 110 else if k = 2 then fnV 111 else if k = 3 then fnV 112
  else if k = 5 then fnV 113 else if k = 6 then fnV 114 else fnV 115
def ruleRow (k : Int) (p q : Nat) : Array Value := #[.int .i64 (stOf k), fnV (mayF k), fnV (byF k), thenV k p q]

theorem rule_index (k : Int) (p q : Nat) (h0 : 0 ≤ k) (h7 : k ≤ 7) (w : World) : (Instr.index 123 (.agg (rulesRow p q)) (.int .i64 k)).run Tryz.prog w = .ok (.agg (ruleRow k p q)) w := by
  rcases eight h0 h7 with rfl | rfl | rfl | rfl | rfl | rfl | rfl | rfl <;> kernel_rfl

/-- The rules: two boxes beside them. -/
def Rules (w : World) (e : Ending) (w' : World) : Prop := ∃ p q, e = .returned (.agg (rulesRow p q)) ∧ Below w.heap.size w w' ∧ w'.heap[p]? = some (.cells #[.int .i64 1] 3 (0, 0)) ∧ w'.heap[q]? = some (.cells #[.int .i64 4] 3 (0, 0)) ∧ w.heap.size ≤ p ∧ w.heap.size ≤ q
theorem rules_info : (Tryz.prog.info? 123).map (·.size) = some 32 := by kernel_rfl
theorem rules_one (p q : Nat) : (rulesRow p q).all (fun x => x.oneCell') = true := by simp [rulesRow, fnV, toV, Value.oneCell']
theorem rules_under : ∃ e n, Tryz.prog.underlying 123 = some (.array n e) := ⟨_, _, Tryz.underlying123⟩

def rulesZero : Array Value := #[.int .i64 0, .nilFunc, .nilFunc, .nilFunc, .int .i64 0, .nilFunc, .nilFunc, .nilFunc, .int .i64 0, .nilFunc, .nilFunc, .nilFunc, .int .i64 0, .nilFunc, .nilFunc, .nilFunc, .int .i64 0, .nilFunc, .nilFunc, .nilFunc, .int .i64 0, .nilFunc, .nilFunc, .nilFunc, .int .i64 0, .nilFunc, .nilFunc, .nilFunc, .int .i64 0, .nilFunc, .nilFunc, .nilFunc]
theorem setRow_at {w : World} {g : Nat} {old cs : Array Value} {t : TypeId} {fr : Nat × Nat} (h : w.heap[g]? = some (.cells old t fr)) : (w.setRow g cs).heap[g]? = some (.cells cs t fr) := by simp [World.setRow, Array.getElem?_modify, h]
theorem setRow_other {w : World} {g k : Nat} {cs : Array Value} (h : k ≠ g) : (w.setRow g cs).heap[k]? = w.heap[k]? := by simp [World.setRow, Array.getElem?_modify, Ne.symm h]
theorem below_setRow {B : Nat} {w w' : World} (h : Below B w w') {g : Nat} (hg : B ≤ g) (cs : Array Value) : Below B w (w'.setRow g cs) :=
  ⟨h.os, h.tape, h.output, by simpa [World.setRow] using h.size, fun k hk => (setRow_other (by omega)).trans (h.block k hk)⟩

set_option maxHeartbeats 1000000 in
theorem rules_any (w : World) : Calls Tryz.prog 44 #[] w (Rules w) := by
  have HZ : Hid ((w.alloc (.cells rulesZero 123)).heap[w.heap.size]? = some (.cells rulesZero 123 (0, 0))) := Lib.hid (heap_alloc_new _ _)
  go_enter Tryz.func44, Tryz.ntmps44
  go_wp2_with fail
  refine (mkto_any 1 _).mono ?_
  rintro e w1 ⟨p, rfl, hb1, hp1, hp2⟩
  have HZ1 := Lib.hid (blk hb1 (lt_blk HZ.out) HZ.out)
  have hs1 : w.heap.size + 1 ≤ w1.heap.size := size_new hb1
  have HB1 : Hid (Below w.heap.size w w1) := Lib.hid (below_new hb1)
  have HP1 : Hid (w.heap.size + 1 ≤ p ∧ w.heap.size + 1 ≤ w1.heap.size) := Lib.hid ⟨by simpa using hp1, hs1⟩
  have HP2 := Lib.hid hp2
  clear hb1 hp1 hp2 hs1
  go_wp2_with fail
  refine (mkto_any 4 _).mono ?_
  rintro e w2 ⟨q, rfl, hb2, hq1, hq2⟩
  have HZ2 := Lib.hid (blk hb2 (lt_blk HZ1.out) HZ1.out)
  have HP3 := Lib.hid (blk hb2 (lt_blk HP2.out) HP2.out)
  have HB2 := Lib.hid (below_then HB1.out hb2)
  have HQ1 := Lib.hid hq1
  have HQ2 := Lib.hid hq2
  clear hb2 hq1 hq2
  go_wp2_with (first
    | (refine wpList_store_row (P := Tryz.prog) rfl 123 (.tmp 0) (.tmp 17) rfl w.heap.size (rulesRow p q) rfl rfl _ _ HZ2.out (by rw [rules_info]; rfl) rfl (rules_one p q) ?_)
    | fail)
  refine bodyPost_ret (v := .agg (rulesRow p q)) (results_cell_row rfl _ _ w.heap.size _ _ _ _ rfl (setRow_at HZ2.out) Tryz.underlying123 rfl (by rw [rules_info]; rfl)) rfl
    ⟨p, q, rfl, below_setRow HB2.out (Nat.le_refl _) _, (setRow_other (by have := HP1.out; omega)).trans HP3.out, (setRow_other (by have := HP1.out; have := HQ1.out; omega)).trans HQ2.out, by have := HP1.out; omega, by have := HP1.out; have := HQ1.out; omega⟩
end Go.Proofs.YtbigoifpfkdkjaaGreatDoor.Sc
