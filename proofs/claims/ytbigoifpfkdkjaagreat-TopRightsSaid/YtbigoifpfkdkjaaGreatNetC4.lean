/- A debt there and one back: netted. -/
import Derived.Test.YtbigoifpfkdkjaaGreatNetB4
import Derived.Deep.CutRange
namespace Go.Proofs.YtbigoifpfkdkjaaGreat.Sc
open Go Go.RowKit Go.ChangeShapes Go.WideShapes Go.ChangeAt
set_option maxRecDepth 100000

theorem setRow_new4 (w : World) (old cs : Array Value) (t' : TypeId) : (w.alloc (.cells old t' (0, 0))).setRow w.heap.size cs = w.alloc (.cells cs t' (0, 0)) := by
  have h : (w.heap.push (Obj.cells old t' (0, 0))).modify w.heap.size (fun | .cells _ e f => .cells cs e f | o => o) = w.heap.push (.cells cs t' (0, 0)) := by
    apply Array.ext_getElem?
    intro i
    rw [Array.getElem?_modify, Array.getElem?_push, Array.getElem?_push]
    by_cases h : i = w.heap.size
    · subst h; simp
    · rw [if_neg (fun e => h e.symm), if_neg h, if_neg h]
  show ({ w with heap := (w.heap.push (Obj.cells old t' (0, 0))).modify w.heap.size _ } : World) = { w with heap := w.heap.push _ }
  rw [← h]
  rfl
def DAB : Db := ⟨⟨#[97]⟩, ⟨#[98]⟩, ⟨#[85, 83, 68]⟩, 5⟩
def DBA : Db := ⟨⟨#[98]⟩, ⟨#[97]⟩, ⟨#[85, 83, 68]⟩, 3⟩
theorem dab_ok : DbOk DAB := ⟨by decide +kernel, by decide +kernel, by decide, rfl, by decide, by decide⟩
theorem dba_ok : DbOk DBA := ⟨by decide +kernel, by decide +kernel, by decide, rfl, by decide, by decide⟩
/-- What is owed, netted. -/
def NtP (w : World) (e : Ending) (w' : World) : Prop := ∃ bm, e = .returned (.tuple #[.map (some bm), .int .i64 0]) ∧ w'.heap[bm]? = some (.map #[⟨kAB, .int .i64 2, 0⟩] 2) ∧ Below w.heap.size w w'
theorem lf5 : (leftOf #[⟨kAB, .int .i64 2, 0⟩] #[]).size = 1 := by kernel_rfl
theorem hold2 : ∀ x ∈ (#[⟨kAB, .int .i64 2, 0⟩] : Array MapEntry).toList, x.born < 2 := by
  intro x hx
  simp only [List.mem_cons, List.not_mem_nil, or_false] at hx
  subst hx
  decide
set_option maxHeartbeats 16000000 in
theorem netted_any (g : Nat) (w : World) (hs : Sl w 4 (.slice (some ⟨g, 0, none⟩) 2 2) ([DAB, DBA].map Db.row)) : Calls Tryz.prog 29 #[.slice (some ⟨g, 0, none⟩) 2 2] w (NtP w) := by
  have HMA := Lib.hid (debts_may [DAB, DBA] _ w hs (by intro x hx; simp only [List.mem_cons, List.not_mem_nil, or_false] at hx; rcases hx with rfl | rfl; exact dab_ok; exact dba_ok) (by decide))
  have HD : Hid (∀ W, Below w.heap.size w W → (W.cell? ⟨g, 0, none⟩ = some (.string ⟨#[97]⟩) ∧ W.cell? ⟨g, 1, none⟩ = some (.string ⟨#[98]⟩) ∧ W.cell? ⟨g, 2, none⟩ = some (.string ⟨#[85, 83, 68]⟩) ∧ W.cell? ⟨g, 3, none⟩ = some (.int .i64 5)) ∧
      (W.cell? ⟨g, 4, none⟩ = some (.string ⟨#[98]⟩) ∧ W.cell? ⟨g, 5, none⟩ = some (.string ⟨#[97]⟩) ∧ W.cell? ⟨g, 6, none⟩ = some (.string ⟨#[85, 83, 68]⟩) ∧ W.cell? ⟨g, 7, none⟩ = some (.int .i64 3))) := Lib.hid (fun W hW => by
    have hs' := hs.below hW (Nat.le_refl _)
    obtain ⟨b, off, e, hn, hb, hc⟩ := hs'.at (i := 0) (by decide)
    simp only [Option.some.injEq, Addr.mk.injEq, and_true] at e
    obtain ⟨rfl, rfl⟩ := e
    have h0 := hc 0 DAB.row rfl
    have h1 := hc 1 DBA.row rfl
    exact ⟨⟨h0 0 _ rfl, h0 1 _ rfl, h0 2 _ rfl, h0 3 _ rfl⟩, h1 0 _ rfl, h1 1 _ rfl, h1 2 _ rfl, h1 3 _ rfl⟩)
  have tm : ∀ W : World, (Instr.makeMap 68 none).run Tryz.prog W = .ok (.map (some W.heap.size)) (W.alloc (.map #[] 0)) := fun W => by kernel_rfl
  clear hs
  go_enter Tryz.func29, Tryz.ntmps29
  go_upto_region 4 with (first
    | ((with_reducible refine HMA.out.mono ?_); rintro en w1 ⟨rfl, hb1⟩; have HB1 := Lib.hid hb1; clear hb1)
    | fail)
  have HM2 : Hid ((w1.alloc (.map #[] 0)).heap[w1.heap.size]? = some (.map #[] 0)) := Lib.hid (heap_alloc_new w1 _)
  have HB2 : Hid (Below w.heap.size w (w1.alloc (.map #[] 0))) := Lib.hid (HB1.out.alloc HB1.out.size _)
  generalize w1.alloc (.map #[] 0) = w2 at *
  obtain ⟨bm, hbm⟩ : ∃ b, b = w1.heap.size := ⟨_, rfl⟩
  rw [← hbm] at HM2 ⊢
  have HBM : Hid (w.heap.size ≤ bm) := Lib.hid (by rw [hbm]; exact HB1.out.size)
  clear hbm tm
  go_wp2_with fail
  go_loopw [6, 21] (fun _ i wr => ∃ k : Nat, k ≤ 2 ∧ i = .int .i64 k ∧ ((k = 0 ∧ wr.heap[bm]? = some (.map #[] 0)) ∨ (k = 1 ∧ wr.heap[bm]? = some (.map #[⟨kAB, .int .i64 5, 0⟩] 1)) ∨ (k = 2 ∧ wr.heap[bm]? = some (.map #[⟨kAB, .int .i64 5, 0⟩, ⟨kBA, .int .i64 3, 1⟩] 2))) ∧ Below w.heap.size w wr) (fun _ i _ => 2 - (intOf i).toNat)
  case atStart => exact ⟨0, by decide, rfl, .inl ⟨rfl, HM2.out⟩, HB2.out⟩
  case round =>
    obtain ⟨k, hk, rfl, hm, hbel⟩ := hrel
    rcases hm with ⟨rfl, hm⟩ | ⟨rfl, hm⟩ | ⟨rfl, hm⟩
    · have HM0 := Lib.hid hm
      obtain ⟨d0, d1, d2, d3⟩ := (HD.out _ hbel).1
      have HBL := Lib.hid hbel
      clear hm hbel
      obtain ⟨wa, hwa⟩ : ∃ x, x = wr.alloc (.cells #[.string ⟨#[97]⟩, .string ⟨#[98]⟩, .string ⟨#[85, 83, 68]⟩, .int .i64 5] 46 (0, 0)) := ⟨_, rfl⟩
      have HWA := Lib.hid hwa
      have hba : Below wr.heap.size wr wa := hwa ▸ one_below wr _
      have HXA : Hid (wa.heap[wr.heap.size]? = some (.cells #[.string ⟨#[97]⟩, .string ⟨#[98]⟩, .string ⟨#[85, 83, 68]⟩, .int .i64 5] 46 (0, 0))) := Lib.hid (hwa ▸ heap_alloc_new wr _)
      have HM := Lib.hid (blk hba (lt_blk HM0.out) HM0.out)
      have HBA := Lib.hid (HBL.out.trans (hba.mono HBL.out.size))
      have HNE : Hid (¬ wr.heap.size = bm) := Lib.hid (fun e => by have := lt_blk HM0.out; omega)
      clear hwa hba
      go_upto_region 7 with (first
        | (refine wpList_store_row (P := Tryz.prog) rfl 46 (.tmp 6) (.tmp 24) rfl wr.heap.size #[.string ⟨#[97]⟩, .string ⟨#[98]⟩, .string ⟨#[85, 83, 68]⟩, .int .i64 5] rfl rfl _ _ (heap_alloc_new wr _) (by kernel_rfl) rfl (by simp [Value.oneCell']) ?_; rw [setRow_new4, ← HWA.out])
        | fail)
      clear d0 d1 d2 d3
      refine Stg.region_lit (fun
        | 0 => .map (some bm)
        | 1 => .pointer (some ⟨wr.heap.size, 2, none⟩)
        | 2 => .string ⟨#[85, 83, 68]⟩
        | 3 => .pointer (some ⟨wr.heap.size, 0, none⟩)
        | 4 => .string ⟨#[97]⟩
        | 5 => .pointer (some ⟨wr.heap.size, 1, none⟩)
        | 6 => .string ⟨#[98]⟩
        | 7 => .agg #[.string ⟨#[85, 83, 68]⟩, .string ⟨#[97]⟩, .string ⟨#[98]⟩]
        | 8 => .int .i64 0
        | 9 => .pointer (some ⟨wr.heap.size, 3, none⟩)
        | 10 => .int .i64 5
        | 11 => .int .i64 5
        | 12 => .tuple #[.int .i64 0, .int .i64 0]
        | 13 => .int .i64 0
        | 14 => undef
        | _ => undef) [(14, (fun V => Keep (fun x => x = bm) wa.drew V ∧ V.heap[bm]? = some (.map #[⟨kAB, .int .i64 5, 0⟩] 1))), (12, (fun V => Keep (fun x => x = bm) wa.drew V ∧ V.heap[bm]? = some (.map #[⟨kAB, .int .i64 0, 0⟩] 1)))] (by kernel_rfl) (by kernel_rfl) (by kernel_rfl) ?_ ?_
      · refine ⟨?_, ?_, ?_, ?_, ?_, ?_, ?_, ?_, ?_, ?_, ?_, ?_, ?_, ?_, ?_, trivial⟩
        · refine Stg.owes_pure rfl (by kernel_rfl) fun ρ L wo hs' hc' => ?_
          have h4 : ρ (.tmp 4) = .map (some bm) := hs'.old' 4 (by kernel_rfl)
          exact Any.ok_move ⟨h4, rfl⟩
        · refine Stg.owes_pure rfl (by kernel_rfl) fun ρ L wo hs' hc' => ?_
          have h6 : ρ (.tmp 6) = .pointer (some ⟨wr.heap.size, 0, none⟩) := hs'.old' 6 (by kernel_rfl)
          go_simp
          try exact ⟨rfl, rfl⟩
        · refine Stg.owes_pure rfl (by kernel_rfl) fun ρ L wo hs' hc' => ?_
          have h26 : ρ (.tmp 26) = .pointer (some ⟨wr.heap.size, 2, none⟩) := hs'.new' 26 1 (by kernel_rfl)
          have hk := Stg.stage_one (C := fun v => Keep (fun x => x = bm) wa.drew v) (Stg.stage_not hs'.world (hs'.beforeR 14 (by kernel_rfl))) (Keep.refl _ _) (fun v hv => hv.1)
          have c0 : wo.cell? ⟨wr.heap.size, 2, none⟩ = some (.string ⟨#[85, 83, 68]⟩) := cell_blk (hk.blk HXA.out HNE.out) 2
          go_simp
          try exact ⟨rfl, rfl⟩
        · refine Stg.owes_pure rfl (by kernel_rfl) fun ρ L wo hs' hc' => ?_
          have h6 : ρ (.tmp 6) = .pointer (some ⟨wr.heap.size, 0, none⟩) := hs'.old' 6 (by kernel_rfl)
          go_simp
          try exact ⟨rfl, rfl⟩
        · refine Stg.owes_pure rfl (by kernel_rfl) fun ρ L wo hs' hc' => ?_
          have h28 : ρ (.tmp 28) = .pointer (some ⟨wr.heap.size, 0, none⟩) := hs'.new' 28 3 (by kernel_rfl)
          have hk := Stg.stage_one (C := fun v => Keep (fun x => x = bm) wa.drew v) (Stg.stage_not hs'.world (hs'.beforeR 14 (by kernel_rfl))) (Keep.refl _ _) (fun v hv => hv.1)
          have c0 : wo.cell? ⟨wr.heap.size, 0, none⟩ = some (.string ⟨#[97]⟩) := cell_blk (hk.blk HXA.out HNE.out) 0
          go_simp
          try exact ⟨rfl, rfl⟩
        · refine Stg.owes_pure rfl (by kernel_rfl) fun ρ L wo hs' hc' => ?_
          have h6 : ρ (.tmp 6) = .pointer (some ⟨wr.heap.size, 0, none⟩) := hs'.old' 6 (by kernel_rfl)
          go_simp
          try exact ⟨rfl, rfl⟩
        · refine Stg.owes_pure rfl (by kernel_rfl) fun ρ L wo hs' hc' => ?_
          have h30 : ρ (.tmp 30) = .pointer (some ⟨wr.heap.size, 1, none⟩) := hs'.new' 30 5 (by kernel_rfl)
          have hk := Stg.stage_one (C := fun v => Keep (fun x => x = bm) wa.drew v) (Stg.stage_not hs'.world (hs'.beforeR 14 (by kernel_rfl))) (Keep.refl _ _) (fun v hv => hv.1)
          have c0 : wo.cell? ⟨wr.heap.size, 1, none⟩ = some (.string ⟨#[98]⟩) := cell_blk (hk.blk HXA.out HNE.out) 1
          go_simp
          try exact ⟨rfl, rfl⟩
        · refine Stg.owes_pure rfl (by kernel_rfl) fun ρ L wo hs' hc' => ?_
          have h27 : ρ (.tmp 27) = .string ⟨#[85, 83, 68]⟩ := hs'.new' 27 2 (by kernel_rfl)
          have h29 : ρ (.tmp 29) = .string ⟨#[97]⟩ := hs'.new' 29 4 (by kernel_rfl)
          have h31 : ρ (.tmp 31) = .string ⟨#[98]⟩ := hs'.new' 31 6 (by kernel_rfl)
          go_simp
          try exact ⟨rfl, rfl⟩
        · refine Stg.owes_pure rfl (by kernel_rfl) fun ρ L wo hs' hc' => ?_
          have h25 : ρ (.tmp 25) = .map (some bm) := hs'.new' 25 0 (by kernel_rfl)
          have h32 : ρ (.tmp 32) = .agg #[.string ⟨#[85, 83, 68]⟩, .string ⟨#[97]⟩, .string ⟨#[98]⟩] := hs'.new' 32 7 (by kernel_rfl)
          rcases Stg.stage_one (C := fun v => v.heap[bm]? = some (.map #[] 0) ∨ v.heap[bm]? = some (.map #[⟨kAB, .int .i64 0, 0⟩] 1)) (Stg.stage_not hs'.world (hs'.beforeR 14 (by kernel_rfl))) (.inl HM.out) (fun v hv => .inr hv.2) with hm | hm
          · exact ok_lkr (key := kAB) h25 h32 (lkAB0 hm) ⟨rfl, rfl⟩
          · exact ok_lkr (key := kAB) h25 h32 (lkAB1 hm) ⟨rfl, rfl⟩
        · refine Stg.owes_pure rfl (by kernel_rfl) fun ρ L wo hs' hc' => ?_
          have h6 : ρ (.tmp 6) = .pointer (some ⟨wr.heap.size, 0, none⟩) := hs'.old' 6 (by kernel_rfl)
          go_simp
          try exact ⟨rfl, rfl⟩
        · refine Stg.owes_pure rfl (by kernel_rfl) fun ρ L wo hs' hc' => ?_
          have h34 : ρ (.tmp 34) = .pointer (some ⟨wr.heap.size, 3, none⟩) := hs'.new' 34 9 (by kernel_rfl)
          have hk := Stg.stage_one (C := fun v => Keep (fun x => x = bm) wa.drew v) (Stg.stage_not hs'.world (hs'.beforeR 14 (by kernel_rfl))) (Keep.refl _ _) (fun v hv => hv.1)
          have c0 : wo.cell? ⟨wr.heap.size, 3, none⟩ = some (.int .i64 5) := cell_blk (hk.blk HXA.out HNE.out) 3
          go_simp
          try exact ⟨rfl, rfl⟩
        · refine Stg.owes_pure rfl (by kernel_rfl) fun ρ L wo hs' hc' => ?_
          have h33 : ρ (.tmp 33) = .int .i64 0 := hs'.new' 33 8 (by kernel_rfl)
          have h35 : ρ (.tmp 35) = .int .i64 5 := hs'.new' 35 10 (by kernel_rfl)
          go_simp
          try first | exact ⟨rfl, rfl⟩ | rfl
        · refine Stg.owes_turn (pre := [(14, (fun V => Keep (fun x => x = bm) wa.drew V ∧ V.heap[bm]? = some (.map #[⟨kAB, .int .i64 5, 0⟩] 1)))]) rfl rfl (by kernel_rfl) fun ρ L wo hs' hc' hw => ?_
          have h25 : ρ (.tmp 25) = .map (some bm) := hs'.new' 25 0 (by kernel_rfl)
          have h32 : ρ (.tmp 32) = .agg #[.string ⟨#[85, 83, 68]⟩, .string ⟨#[97]⟩, .string ⟨#[98]⟩] := hs'.new' 32 7 (by kernel_rfl)
          have e0 : wo = wa.drew := hw
          have hm : wo.heap[bm]? = some (.map #[] 0) := by rw [e0]; exact HM.out
          exact ok_mer (key := kAB) h25 h32 (meAB0 hm) ⟨rfl, by rw [← e0]; exact set_kept hm _, set_heap hm _⟩
        · refine Stg.owes_pure rfl (by kernel_rfl) fun ρ L wo hs' hc' => ?_
          have h37 : ρ (.tmp 37) = .tuple #[.int .i64 0, .int .i64 0] := hs'.new' 37 12 (by kernel_rfl)
          go_simp
          try first | exact ⟨rfl, rfl⟩ | rfl
        · refine Stg.owes_turn (pre := []) rfl rfl (by kernel_rfl) fun ρ L wo hs' hc' hw => ?_
          have h25 : ρ (.tmp 25) = .map (some bm) := hs'.new' 25 0 (by kernel_rfl)
          have h38 : ρ (.tmp 38) = .int .i64 0 := hs'.new' 38 13 (by kernel_rfl)
          have h36 : ρ (.tmp 36) = .int .i64 5 := hs'.new' 36 11 (by kernel_rfl)
          have hr := Stg.stage_head hw (hs'.behindR 13 12 (by kernel_rfl))
          exact ok_esr (n := 0) h25 h38 h36 (esAB1 hr.2) ⟨rfl, hr.1.trans (set_kept hr.2 _) (fun _ _ h => h), set_heap hr.2 _⟩
      intro L w9 hL hst
      obtain ⟨hk9, hm9⟩ := Stg.stage_head hst (hL 14 (by decide))
      have HK9 := Lib.hid (Keep.undrew hk9)
      have HM9 := Lib.hid hm9
      clear hL hst hk9 hm9
      simp only [Any.putAll]
      go_frame
      go_wp2_with fail
      go_roundw
      case rel => exact ⟨1, by decide, rfl, .inr (.inl ⟨rfl, HM9.out⟩), HK9.out.behind HBA.out HBA.out.size (fun q hq e => by have := HBM.out; omega)⟩
      case measure => simp [intOf]
    · have HM0 := Lib.hid hm
      obtain ⟨d0, d1, d2, d3⟩ := (HD.out _ hbel).2
      have HBL := Lib.hid hbel
      clear hm hbel
      obtain ⟨wa, hwa⟩ : ∃ x, x = wr.alloc (.cells #[.string ⟨#[98]⟩, .string ⟨#[97]⟩, .string ⟨#[85, 83, 68]⟩, .int .i64 3] 46 (0, 0)) := ⟨_, rfl⟩
      have HWA := Lib.hid hwa
      have hba : Below wr.heap.size wr wa := hwa ▸ one_below wr _
      have HXA : Hid (wa.heap[wr.heap.size]? = some (.cells #[.string ⟨#[98]⟩, .string ⟨#[97]⟩, .string ⟨#[85, 83, 68]⟩, .int .i64 3] 46 (0, 0))) := Lib.hid (hwa ▸ heap_alloc_new wr _)
      have HM := Lib.hid (blk hba (lt_blk HM0.out) HM0.out)
      have HBA := Lib.hid (HBL.out.trans (hba.mono HBL.out.size))
      have HNE : Hid (¬ wr.heap.size = bm) := Lib.hid (fun e => by have := lt_blk HM0.out; omega)
      clear hwa hba
      go_upto_region 7 with (first
        | (refine wpList_store_row (P := Tryz.prog) rfl 46 (.tmp 6) (.tmp 24) rfl wr.heap.size #[.string ⟨#[98]⟩, .string ⟨#[97]⟩, .string ⟨#[85, 83, 68]⟩, .int .i64 3] rfl rfl _ _ (heap_alloc_new wr _) (by kernel_rfl) rfl (by simp [Value.oneCell']) ?_; rw [setRow_new4, ← HWA.out])
        | fail)
      clear d0 d1 d2 d3
      refine Stg.region_lit (fun
        | 0 => .map (some bm)
        | 1 => .pointer (some ⟨wr.heap.size, 2, none⟩)
        | 2 => .string ⟨#[85, 83, 68]⟩
        | 3 => .pointer (some ⟨wr.heap.size, 0, none⟩)
        | 4 => .string ⟨#[98]⟩
        | 5 => .pointer (some ⟨wr.heap.size, 1, none⟩)
        | 6 => .string ⟨#[97]⟩
        | 7 => .agg #[.string ⟨#[85, 83, 68]⟩, .string ⟨#[98]⟩, .string ⟨#[97]⟩]
        | 8 => .int .i64 0
        | 9 => .pointer (some ⟨wr.heap.size, 3, none⟩)
        | 10 => .int .i64 3
        | 11 => .int .i64 3
        | 12 => .tuple #[.int .i64 0, .int .i64 1]
        | 13 => .int .i64 1
        | 14 => undef
        | _ => undef) [(14, (fun V => Keep (fun x => x = bm) wa.drew V ∧ V.heap[bm]? = some (.map #[⟨kAB, .int .i64 5, 0⟩, ⟨kBA, .int .i64 3, 1⟩] 2))), (12, (fun V => Keep (fun x => x = bm) wa.drew V ∧ V.heap[bm]? = some (.map #[⟨kAB, .int .i64 5, 0⟩, ⟨kBA, .int .i64 0, 1⟩] 2)))] (by kernel_rfl) (by kernel_rfl) (by kernel_rfl) ?_ ?_
      · refine ⟨?_, ?_, ?_, ?_, ?_, ?_, ?_, ?_, ?_, ?_, ?_, ?_, ?_, ?_, ?_, trivial⟩
        · refine Stg.owes_pure rfl (by kernel_rfl) fun ρ L wo hs' hc' => ?_
          have h4 : ρ (.tmp 4) = .map (some bm) := hs'.old' 4 (by kernel_rfl)
          exact Any.ok_move ⟨h4, rfl⟩
        · refine Stg.owes_pure rfl (by kernel_rfl) fun ρ L wo hs' hc' => ?_
          have h6 : ρ (.tmp 6) = .pointer (some ⟨wr.heap.size, 0, none⟩) := hs'.old' 6 (by kernel_rfl)
          go_simp
          try exact ⟨rfl, rfl⟩
        · refine Stg.owes_pure rfl (by kernel_rfl) fun ρ L wo hs' hc' => ?_
          have h26 : ρ (.tmp 26) = .pointer (some ⟨wr.heap.size, 2, none⟩) := hs'.new' 26 1 (by kernel_rfl)
          have hk := Stg.stage_one (C := fun v => Keep (fun x => x = bm) wa.drew v) (Stg.stage_not hs'.world (hs'.beforeR 14 (by kernel_rfl))) (Keep.refl _ _) (fun v hv => hv.1)
          have c0 : wo.cell? ⟨wr.heap.size, 2, none⟩ = some (.string ⟨#[85, 83, 68]⟩) := cell_blk (hk.blk HXA.out HNE.out) 2
          go_simp
          try exact ⟨rfl, rfl⟩
        · refine Stg.owes_pure rfl (by kernel_rfl) fun ρ L wo hs' hc' => ?_
          have h6 : ρ (.tmp 6) = .pointer (some ⟨wr.heap.size, 0, none⟩) := hs'.old' 6 (by kernel_rfl)
          go_simp
          try exact ⟨rfl, rfl⟩
        · refine Stg.owes_pure rfl (by kernel_rfl) fun ρ L wo hs' hc' => ?_
          have h28 : ρ (.tmp 28) = .pointer (some ⟨wr.heap.size, 0, none⟩) := hs'.new' 28 3 (by kernel_rfl)
          have hk := Stg.stage_one (C := fun v => Keep (fun x => x = bm) wa.drew v) (Stg.stage_not hs'.world (hs'.beforeR 14 (by kernel_rfl))) (Keep.refl _ _) (fun v hv => hv.1)
          have c0 : wo.cell? ⟨wr.heap.size, 0, none⟩ = some (.string ⟨#[98]⟩) := cell_blk (hk.blk HXA.out HNE.out) 0
          go_simp
          try exact ⟨rfl, rfl⟩
        · refine Stg.owes_pure rfl (by kernel_rfl) fun ρ L wo hs' hc' => ?_
          have h6 : ρ (.tmp 6) = .pointer (some ⟨wr.heap.size, 0, none⟩) := hs'.old' 6 (by kernel_rfl)
          go_simp
          try exact ⟨rfl, rfl⟩
        · refine Stg.owes_pure rfl (by kernel_rfl) fun ρ L wo hs' hc' => ?_
          have h30 : ρ (.tmp 30) = .pointer (some ⟨wr.heap.size, 1, none⟩) := hs'.new' 30 5 (by kernel_rfl)
          have hk := Stg.stage_one (C := fun v => Keep (fun x => x = bm) wa.drew v) (Stg.stage_not hs'.world (hs'.beforeR 14 (by kernel_rfl))) (Keep.refl _ _) (fun v hv => hv.1)
          have c0 : wo.cell? ⟨wr.heap.size, 1, none⟩ = some (.string ⟨#[97]⟩) := cell_blk (hk.blk HXA.out HNE.out) 1
          go_simp
          try exact ⟨rfl, rfl⟩
        · refine Stg.owes_pure rfl (by kernel_rfl) fun ρ L wo hs' hc' => ?_
          have h27 : ρ (.tmp 27) = .string ⟨#[85, 83, 68]⟩ := hs'.new' 27 2 (by kernel_rfl)
          have h29 : ρ (.tmp 29) = .string ⟨#[98]⟩ := hs'.new' 29 4 (by kernel_rfl)
          have h31 : ρ (.tmp 31) = .string ⟨#[97]⟩ := hs'.new' 31 6 (by kernel_rfl)
          go_simp
          try exact ⟨rfl, rfl⟩
        · refine Stg.owes_pure rfl (by kernel_rfl) fun ρ L wo hs' hc' => ?_
          have h25 : ρ (.tmp 25) = .map (some bm) := hs'.new' 25 0 (by kernel_rfl)
          have h32 : ρ (.tmp 32) = .agg #[.string ⟨#[85, 83, 68]⟩, .string ⟨#[98]⟩, .string ⟨#[97]⟩] := hs'.new' 32 7 (by kernel_rfl)
          rcases Stg.stage_one (C := fun v => v.heap[bm]? = some (.map #[⟨kAB, .int .i64 5, 0⟩] 1) ∨ v.heap[bm]? = some (.map #[⟨kAB, .int .i64 5, 0⟩, ⟨kBA, .int .i64 0, 1⟩] 2)) (Stg.stage_not hs'.world (hs'.beforeR 14 (by kernel_rfl))) (.inl HM.out) (fun v hv => .inr hv.2) with hm | hm
          · exact ok_lkr (key := kBA) h25 h32 (lkBA1 hm) ⟨rfl, rfl⟩
          · exact ok_lkr (key := kBA) h25 h32 (lkBA2 hm) ⟨rfl, rfl⟩
        · refine Stg.owes_pure rfl (by kernel_rfl) fun ρ L wo hs' hc' => ?_
          have h6 : ρ (.tmp 6) = .pointer (some ⟨wr.heap.size, 0, none⟩) := hs'.old' 6 (by kernel_rfl)
          go_simp
          try exact ⟨rfl, rfl⟩
        · refine Stg.owes_pure rfl (by kernel_rfl) fun ρ L wo hs' hc' => ?_
          have h34 : ρ (.tmp 34) = .pointer (some ⟨wr.heap.size, 3, none⟩) := hs'.new' 34 9 (by kernel_rfl)
          have hk := Stg.stage_one (C := fun v => Keep (fun x => x = bm) wa.drew v) (Stg.stage_not hs'.world (hs'.beforeR 14 (by kernel_rfl))) (Keep.refl _ _) (fun v hv => hv.1)
          have c0 : wo.cell? ⟨wr.heap.size, 3, none⟩ = some (.int .i64 3) := cell_blk (hk.blk HXA.out HNE.out) 3
          go_simp
          try exact ⟨rfl, rfl⟩
        · refine Stg.owes_pure rfl (by kernel_rfl) fun ρ L wo hs' hc' => ?_
          have h33 : ρ (.tmp 33) = .int .i64 0 := hs'.new' 33 8 (by kernel_rfl)
          have h35 : ρ (.tmp 35) = .int .i64 3 := hs'.new' 35 10 (by kernel_rfl)
          go_simp
          try first | exact ⟨rfl, rfl⟩ | rfl
        · refine Stg.owes_turn (pre := [(14, (fun V => Keep (fun x => x = bm) wa.drew V ∧ V.heap[bm]? = some (.map #[⟨kAB, .int .i64 5, 0⟩, ⟨kBA, .int .i64 3, 1⟩] 2)))]) rfl rfl (by kernel_rfl) fun ρ L wo hs' hc' hw => ?_
          have h25 : ρ (.tmp 25) = .map (some bm) := hs'.new' 25 0 (by kernel_rfl)
          have h32 : ρ (.tmp 32) = .agg #[.string ⟨#[85, 83, 68]⟩, .string ⟨#[98]⟩, .string ⟨#[97]⟩] := hs'.new' 32 7 (by kernel_rfl)
          have e0 : wo = wa.drew := hw
          have hm : wo.heap[bm]? = some (.map #[⟨kAB, .int .i64 5, 0⟩] 1) := by rw [e0]; exact HM.out
          exact ok_mer (key := kBA) h25 h32 (meBA1 hm) ⟨rfl, by rw [← e0]; exact set_kept hm _, set_heap hm _⟩
        · refine Stg.owes_pure rfl (by kernel_rfl) fun ρ L wo hs' hc' => ?_
          have h37 : ρ (.tmp 37) = .tuple #[.int .i64 0, .int .i64 1] := hs'.new' 37 12 (by kernel_rfl)
          go_simp
          try first | exact ⟨rfl, rfl⟩ | rfl
        · refine Stg.owes_turn (pre := []) rfl rfl (by kernel_rfl) fun ρ L wo hs' hc' hw => ?_
          have h25 : ρ (.tmp 25) = .map (some bm) := hs'.new' 25 0 (by kernel_rfl)
          have h38 : ρ (.tmp 38) = .int .i64 1 := hs'.new' 38 13 (by kernel_rfl)
          have h36 : ρ (.tmp 36) = .int .i64 3 := hs'.new' 36 11 (by kernel_rfl)
          have hr := Stg.stage_head hw (hs'.behindR 13 12 (by kernel_rfl))
          exact ok_esr (n := 1) h25 h38 h36 (esBA2 hr.2) ⟨rfl, hr.1.trans (set_kept hr.2 _) (fun _ _ h => h), set_heap hr.2 _⟩
      intro L w9 hL hst
      obtain ⟨hk9, hm9⟩ := Stg.stage_head hst (hL 14 (by decide))
      have HK9 := Lib.hid (Keep.undrew hk9)
      have HM9 := Lib.hid hm9
      clear hL hst hk9 hm9
      simp only [Any.putAll]
      go_frame
      go_wp2_with fail
      go_roundw
      case rel => exact ⟨2, by decide, rfl, .inr (.inr ⟨rfl, HM9.out⟩), HK9.out.behind HBA.out HBA.out.size (fun q hq e => by have := HBM.out; omega)⟩
      case measure => simp [intOf]
    · have HM0 := Lib.hid hm
      have HBL := Lib.hid hbel
      clear hm hbel hk
      rw [show ((2 : Nat) : Int) = 2 from rfl]
      go_wp2_with (first
        | ((with_reducible refine wpl_rgr (b := bm) ?_ ?_ (rg_run HM0.out) ?_); rfl; rfl; go_frame)
        | fail)
      obtain ⟨r, hr⟩ : ∃ b, b = wr.heap.size := ⟨_, rfl⟩
      obtain ⟨wt, hwt⟩ : ∃ x, x = wr.alloc (.mapIter (some bm) 2 #[] 2) := ⟨_, rfl⟩
      rw [← hwt, ← hr]
      have hbt : Below wr.heap.size wr wt := hwt ▸ one_below wr _
      have HRT : Hid (wt.heap[r]? = some (.mapIter (some bm) 2 #[] 2)) := Lib.hid (by rw [hwt, hr]; exact heap_alloc_new wr _)
      have HMT := Lib.hid (blk hbt (lt_blk HM0.out) HM0.out)
      have HBT := Lib.hid (HBL.out.trans (hbt.mono HBL.out.size))
      have HRM : Hid (w.heap.size ≤ r ∧ ¬ bm = r) := Lib.hid ⟨by rw [hr]; exact HBL.out.size, fun e => by have := lt_blk HM0.out; omega⟩
      have HNR : Hid (¬ r = bm) := Lib.hid (fun e => HRM.out.2 e.symm)
      clear hwt hbt hr HD HM0 HBL
      go_loopw [7, 8, 9, 10, 12, 64] (fun _ _ _ _ _ _ wr => ((wr.heap[bm]? = some (.map #[⟨kAB, .int .i64 5, 0⟩, ⟨kBA, .int .i64 3, 1⟩] 2) ∧ wr.heap[r]? = some (.mapIter (some bm) 2 #[] 2)) ∨ (wr.heap[bm]? = some (.map #[⟨kAB, .int .i64 2, 0⟩] 2) ∧ wr.heap[r]? = some (.mapIter (some bm) 2 #[0] 2)) ∨
        (wr.heap[bm]? = some (.map #[⟨kAB, .int .i64 2, 0⟩] 2) ∧ wr.heap[r]? = some (.mapIter (some bm) 2 #[1] 2)) ∨ (wr.heap[bm]? = some (.map #[⟨kAB, .int .i64 2, 0⟩] 2) ∧ wr.heap[r]? = some (.mapIter (some bm) 2 #[1, 0] 2))) ∧ Below w.heap.size w wr) (fun _ _ _ _ _ _ wr => itLeft4 wr r bm)
      case atStart => exact ⟨.inl ⟨HMT.out, HRT.out⟩, HBT.out⟩
      case round =>
      obtain ⟨hst, hbel⟩ := hrel
      have HB0 := Lib.hid hbel
      clear hbel HMT HRT HBT
      rcases hst with ⟨hm, hr⟩ | ⟨hm, hr⟩ | ⟨hm, hr⟩ | ⟨hm, hr⟩
      · have HM0 := Lib.hid hm
        have HR0 := Lib.hid hr
        clear hm hr
        have hold : ∀ x ∈ (#[⟨kAB, .int .i64 5, 0⟩, ⟨kBA, .int .i64 3, 1⟩] : Array MapEntry).toList, x.born < 2 := by
          intro x hx
          simp only [List.mem_cons, List.not_mem_nil, or_false] at hx
          rcases hx with rfl | rfl <;> decide
        have HOLD := Lib.hid hold
        obtain ⟨L, hL⟩ : ∃ L, (leftOf #[⟨kAB, .int .i64 5, 0⟩, ⟨kBA, .int .i64 3, 1⟩] #[]).toList = L := ⟨_, rfl⟩
        have hL2 : L = [⟨kAB, .int .i64 5, 0⟩, ⟨kBA, .int .i64 3, 1⟩] := by rw [← hL]; kernel_rfl
        have HLL : Hid ((leftOf #[⟨kAB, .int .i64 5, 0⟩, ⟨kBA, .int .i64 3, 1⟩] #[]).toList = L ∧ L ≠ []) := Lib.hid ⟨hL, by rw [hL2]; exact List.cons_ne_nil _ _⟩
        have HL2 := Lib.hid hL2
        clear hold hL hL2
        go_wp2_with (first
          | ((with_reducible refine wpl_nxS ?_ ?_ HR0.out HM0.out HOLD.out (Nat.le_refl _) (by decide) HLL.out ?_); rfl; rfl)
          | fail)
        intro e he wn hnx
        rw [HL2.out] at he
        have he2 : e = ⟨kAB, .int .i64 5, 0⟩ ∨ e = ⟨kBA, .int .i64 3, 1⟩ := by simpa using he
        have HBN : Hid (Below w.heap.size w wn) := Lib.hid (hnx.1.behind HB0.out HB0.out.size (fun q hq e => by have := HRM.out.1; omega))
        clear he HLL HL2 HOLD
        rcases he2 with rfl | rfl
        · have HRN : Hid (wn.heap[r]? = some (.mapIter (some bm) 2 #[0] 2)) := Lib.hid hnx.2.1
          have HMN := Lib.hid hnx.2.2.1
          have hen := hnx.2.2.2
          clear hnx
          unfold kAB at hen ⊢
          simp only at hen ⊢
          obtain ⟨wp, hwp⟩ : ∃ x, x = wn.alloc (.cells #[.string ⟨#[85, 83, 68]⟩, .string ⟨#[97]⟩, .string ⟨#[98]⟩] 86 (0, 0)) := ⟨_, rfl⟩
          obtain ⟨wq, hwq⟩ : ∃ x, x = wp.alloc (.cells #[.string ⟨#[85, 83, 68]⟩, .string ⟨#[98]⟩, .string ⟨#[97]⟩] 86 (0, 0)) := ⟨_, rfl⟩
          have HWP := Lib.hid hwp
          have HWQ := Lib.hid hwq
          have hbp : Below wn.heap.size wn wp := hwp ▸ one_below _ _
          have hbq : Below wp.heap.size wp wq := hwq ▸ one_below _ _
          have HX7 : Hid (wp.heap[wn.heap.size]? = some (.cells #[.string ⟨#[85, 83, 68]⟩, .string ⟨#[97]⟩, .string ⟨#[98]⟩] 86 (0, 0))) := Lib.hid (hwp ▸ heap_alloc_new _ _)
          have HX7q := Lib.hid (blk hbq (lt_blk HX7.out) HX7.out)
          have HX9q : Hid (wq.heap[wp.heap.size]? = some (.cells #[.string ⟨#[85, 83, 68]⟩, .string ⟨#[98]⟩, .string ⟨#[97]⟩] 86 (0, 0))) := Lib.hid (hwq ▸ heap_alloc_new _ _)
          have HBP := Lib.hid (hbp.trans (hbq.mono hbp.size))
          have HMQ := Lib.hid (blk HBP.out (lt_blk HMN.out) HMN.out)
          have HRQ := Lib.hid (blk HBP.out (lt_blk HRN.out) HRN.out)
          have HBQ := Lib.hid (HBN.out.trans (HBP.out.mono HBN.out.size))
          have p0 := cell_blk HX7.out 0
          have p1 := cell_blk HX7.out 1
          have p2 := cell_blk HX7.out 2
          clear hwp hwq hbp hbq
          go_upto_region 12 with (first
            | (refine wpList_store_row (P := Tryz.prog) rfl 86 (.tmp 7) (.tmp 45) rfl wn.heap.size #[.string ⟨#[85, 83, 68]⟩, .string ⟨#[97]⟩, .string ⟨#[98]⟩] rfl rfl _ _ (heap_alloc_new wn _) (by kernel_rfl) rfl (by simp [Value.oneCell']) ?_; rw [setRow_new4, ← HWP.out])
            | fail)
          go_upto_region 13 with (first
            | (refine wpList_store_row (P := Tryz.prog) rfl 86 (.tmp 9) (.tmp 53) rfl wp.heap.size #[.string ⟨#[85, 83, 68]⟩, .string ⟨#[98]⟩, .string ⟨#[97]⟩] rfl rfl _ _ (heap_alloc_new wp _) (by kernel_rfl) rfl (by simp [Value.oneCell']) ?_; rw [setRow_new4, ← HWQ.out])
            | fail)
          clear p0 p1 p2 hen
          have q0 := cell_blk HX9q.out 0
          have q1 := cell_blk HX9q.out 1
          have q2 := cell_blk HX9q.out 2
          have p0 := cell_blk HX7q.out 0
          have p1 := cell_blk HX7q.out 1
          have p2 := cell_blk HX7q.out 2
          have hlk : (Instr.lookup 68 (.map (some bm)) (.agg #[.string ⟨#[85, 83, 68]⟩, .string ⟨#[98]⟩, .string ⟨#[97]⟩]) false).run Tryz.prog wq = .ok (.int .i64 3) wq := lkBA2 HMQ.out
          go_wp2_with (first
            | ((with_reducible refine Any.wpl_min_is (k := .i64) (p := 5) (q := 3) (r := 3) ?_ ?_ ?_ ?_ ?_); rfl; rfl; rfl; rfl)
            | fail)
          clear p0 p1 p2 q0 q1 q2 hlk
          go_loopw [12, 64] (fun _ i wj => ∃ j : Nat, j ≤ 2 ∧ i = .int .i64 j ∧ ((j = 0 ∧ wj.heap[bm]? = some (.map #[⟨kAB, .int .i64 5, 0⟩, ⟨kBA, .int .i64 3, 1⟩] 2)) ∨ (j = 1 ∧ wj.heap[bm]? = some (.map #[⟨kAB, .int .i64 2, 0⟩, ⟨kBA, .int .i64 3, 1⟩] 2)) ∨ (j = 2 ∧ wj.heap[bm]? = some (.map #[⟨kAB, .int .i64 2, 0⟩] 2))) ∧ wj.heap[r]? = some (.mapIter (some bm) 2 #[0] 2) ∧ Below w.heap.size w wj) (fun _ i _ => 2 - (intOf i).toNat)
          case atStart => exact ⟨0, by decide, rfl, .inl ⟨rfl, HMQ.out⟩, HRQ.out, HBQ.out⟩
          case round =>
            obtain ⟨j, hj, rfl, hm, hrj, hbj⟩ := hrel
            clear HMQ HRQ HBQ HX7q HX9q HX7 HBP HWP HWQ HMN HRN HBN
            rcases hm with ⟨rfl, hm⟩ | ⟨rfl, hm⟩ | ⟨rfl, hm⟩
            · have HMJ := Lib.hid hm
              have HRJ := Lib.hid hrj
              have HBJ := Lib.hid hbj
              clear hm hrj hbj
              obtain ⟨wk, hwk⟩ : ∃ x, x = wr.alloc (.cells #[.string ⟨#[85, 83, 68]⟩, .string ⟨#[97]⟩, .string ⟨#[98]⟩] 86 (0, 0)) := ⟨_, rfl⟩
              have HWK := Lib.hid hwk
              have hbk : Below wr.heap.size wr wk := hwk ▸ one_below wr _
              have HXK : Hid (wk.heap[wr.heap.size]? = some (.cells #[.string ⟨#[85, 83, 68]⟩, .string ⟨#[97]⟩, .string ⟨#[98]⟩] 86 (0, 0))) := Lib.hid (hwk ▸ heap_alloc_new wr _)
              have HM := Lib.hid (blk hbk (lt_blk HMJ.out) HMJ.out)
              have HRK := Lib.hid (blk hbk (lt_blk HRJ.out) HRJ.out)
              have HBK := Lib.hid (HBJ.out.trans (hbk.mono HBJ.out.size))
              have HNK : Hid (¬ wr.heap.size = bm) := Lib.hid (fun e => by have := lt_blk HMJ.out; omega)
              have ix : ∀ W : World, (Instr.index 87 (.agg #[.string ⟨#[85, 83, 68]⟩, .string ⟨#[97]⟩, .string ⟨#[98]⟩, .string ⟨#[85, 83, 68]⟩, .string ⟨#[98]⟩, .string ⟨#[97]⟩]) (.int .i64 0)).run Tryz.prog W = .ok (.agg #[.string ⟨#[85, 83, 68]⟩, .string ⟨#[97]⟩, .string ⟨#[98]⟩]) W := fun W => by kernel_rfl
              clear hwk hbk
              go_upto_region 18 with (first
                | (refine wpList_store_row (P := Tryz.prog) rfl 86 (.tmp 12) (.tmp 66) rfl wr.heap.size #[.string ⟨#[85, 83, 68]⟩, .string ⟨#[97]⟩, .string ⟨#[98]⟩] rfl rfl _ _ (heap_alloc_new wr _) (by kernel_rfl) rfl (by simp [Value.oneCell']) ?_; rw [setRow_new4, ← HWK.out])
                | fail)
              clear ix
              refine Stg.region_lit (fun
                | 0 => .map (some bm)
                | 1 => .agg #[.string ⟨#[85, 83, 68]⟩, .string ⟨#[97]⟩, .string ⟨#[98]⟩]
                | 2 => .int .i64 5
                | 3 => .int .i64 3
                | 4 => .int .i64 2
                | 5 => .tuple #[.int .i64 5, .int .i64 0]
                | 6 => .int .i64 0
                | 7 => undef
                | _ => undef) [(7, (fun V => Keep (fun x => x = bm) wk.drew V ∧ V.heap[bm]? = some (.map #[⟨kAB, .int .i64 2, 0⟩, ⟨kBA, .int .i64 3, 1⟩] 2))), (5, (fun V => Keep (fun x => x = bm) wk.drew V ∧ V.heap[bm]? = some (.map #[⟨kAB, .int .i64 5, 0⟩, ⟨kBA, .int .i64 3, 1⟩] 2)))] (by kernel_rfl) (by kernel_rfl) (by kernel_rfl) ?_ ?_
              · refine ⟨?_, ?_, ?_, ?_, ?_, ?_, ?_, ?_, trivial⟩
                · refine Stg.owes_pure rfl (by kernel_rfl) fun ρ L wo hs' hc' => ?_
                  have h4 : ρ (.tmp 4) = .map (some bm) := hs'.old' 4 (by kernel_rfl)
                  exact Any.ok_move ⟨h4, rfl⟩
                · refine Stg.owes_pure rfl (by kernel_rfl) fun ρ L wo hs' hc' => ?_
                  have h12 : ρ (.tmp 12) = .pointer (some ⟨wr.heap.size, 0, none⟩) := hs'.old' 12 (by kernel_rfl)
                  have hk := Stg.stage_one (C := fun v => Keep (fun x => x = bm) wk.drew v) (Stg.stage_not hs'.world (hs'.beforeR 7 (by kernel_rfl))) (Keep.refl _ _) (fun v hv => hv.1)
                  have c0 : wo.cell? ⟨wr.heap.size, 0, none⟩ = some (.string ⟨#[85, 83, 68]⟩) := cell_blk (hk.blk HXK.out HNK.out) 0
                  have c1 : wo.cell? ⟨wr.heap.size, 1, none⟩ = some (.string ⟨#[97]⟩) := cell_blk (hk.blk HXK.out HNK.out) 1
                  have c2 : wo.cell? ⟨wr.heap.size, 2, none⟩ = some (.string ⟨#[98]⟩) := cell_blk (hk.blk HXK.out HNK.out) 2
                  go_simp
                  try exact ⟨rfl, rfl⟩
                · refine Stg.owes_pure rfl (by kernel_rfl) fun ρ L wo hs' hc' => ?_
                  have h67 : ρ (.tmp 67) = .map (some bm) := hs'.new' 67 0 (by kernel_rfl)
                  have h68 : ρ (.tmp 68) = .agg #[.string ⟨#[85, 83, 68]⟩, .string ⟨#[97]⟩, .string ⟨#[98]⟩] := hs'.new' 68 1 (by kernel_rfl)
                  rcases Stg.stage_one (C := fun v => v.heap[bm]? = some (.map #[⟨kAB, .int .i64 5, 0⟩, ⟨kBA, .int .i64 3, 1⟩] 2) ∨ v.heap[bm]? = some (.map #[⟨kAB, .int .i64 5, 0⟩, ⟨kBA, .int .i64 3, 1⟩] 2)) (Stg.stage_not hs'.world (hs'.beforeR 7 (by kernel_rfl))) (.inl HM.out) (fun v hv => .inr hv.2) with hm | hm
                  · exact ok_lkr (key := kAB) h67 h68 (lkAB2 hm) ⟨rfl, rfl⟩
                  · exact ok_lkr (key := kAB) h67 h68 (lkAB2 hm) ⟨rfl, rfl⟩
                · refine Stg.owes_pure rfl (by kernel_rfl) fun ρ L wo hs' hc' => ?_
                  have h10 : ρ (.tmp 10) = .int .i64 3 := hs'.old' 10 (by kernel_rfl)
                  exact Any.ok_move ⟨h10, rfl⟩
                · refine Stg.owes_pure rfl (by kernel_rfl) fun ρ L wo hs' hc' => ?_
                  have h69 : ρ (.tmp 69) = .int .i64 5 := hs'.new' 69 2 (by kernel_rfl)
                  have h70 : ρ (.tmp 70) = .int .i64 3 := hs'.new' 70 3 (by kernel_rfl)
                  go_simp
                  try first | exact ⟨rfl, rfl⟩ | rfl
                · refine Stg.owes_turn (pre := [(7, (fun V => Keep (fun x => x = bm) wk.drew V ∧ V.heap[bm]? = some (.map #[⟨kAB, .int .i64 2, 0⟩, ⟨kBA, .int .i64 3, 1⟩] 2)))]) rfl rfl (by kernel_rfl) fun ρ L wo hs' hc' hw => ?_
                  have h67 : ρ (.tmp 67) = .map (some bm) := hs'.new' 67 0 (by kernel_rfl)
                  have h68 : ρ (.tmp 68) = .agg #[.string ⟨#[85, 83, 68]⟩, .string ⟨#[97]⟩, .string ⟨#[98]⟩] := hs'.new' 68 1 (by kernel_rfl)
                  have e0 : wo = wk.drew := hw
                  have hm : wo.heap[bm]? = some (.map #[⟨kAB, .int .i64 5, 0⟩, ⟨kBA, .int .i64 3, 1⟩] 2) := by rw [e0]; exact HM.out
                  exact ok_mer (key := kAB) h67 h68 (meAB2 hm) ⟨rfl, by rw [← e0]; exact set_kept hm _, set_heap hm _⟩
                · refine Stg.owes_pure rfl (by kernel_rfl) fun ρ L wo hs' hc' => ?_
                  have h72 : ρ (.tmp 72) = .tuple #[.int .i64 5, .int .i64 0] := hs'.new' 72 5 (by kernel_rfl)
                  go_simp
                  try first | exact ⟨rfl, rfl⟩ | rfl
                · refine Stg.owes_turn (pre := []) rfl rfl (by kernel_rfl) fun ρ L wo hs' hc' hw => ?_
                  have h67 : ρ (.tmp 67) = .map (some bm) := hs'.new' 67 0 (by kernel_rfl)
                  have h73 : ρ (.tmp 73) = .int .i64 0 := hs'.new' 73 6 (by kernel_rfl)
                  have h71 : ρ (.tmp 71) = .int .i64 2 := hs'.new' 71 4 (by kernel_rfl)
                  have hr := Stg.stage_head hw (hs'.behindR 6 5 (by kernel_rfl))
                  exact ok_esr (n := 0) h67 h73 h71 (esAB2 hr.2) ⟨rfl, hr.1.trans (set_kept hr.2 _) (fun _ _ h => h), set_heap hr.2 _⟩
              intro L w9 hL hst
              obtain ⟨hk9, hm9⟩ := Stg.stage_head hst (hL 7 (by decide))
              have HK9 := Lib.hid (Keep.undrew hk9)
              have HM9 := Lib.hid hm9
              clear hL hst hk9 hm9
              simp only [Any.putAll]
              go_frame
              have HR9 := Lib.hid (HK9.out.blk HRK.out HNR.out)
              have HX9 := Lib.hid (HK9.out.blk HXK.out HNK.out)
              have x0 := cell_blk HX9.out 0
              have x1 := cell_blk HX9.out 1
              have x2 := cell_blk HX9.out 2
              have HB9 : Hid (Below w.heap.size w w9) := Lib.hid (HK9.out.behind HBK.out HBK.out.size (fun q hq e => by have := HBM.out; omega))
              have hlk : (Instr.lookup 68 (.map (some bm)) (.agg #[.string ⟨#[85, 83, 68]⟩, .string ⟨#[97]⟩, .string ⟨#[98]⟩]) false).run Tryz.prog w9 = .ok (.int .i64 2) w9 := lkAB2 HM9.out
              go_wp2_with fail
              go_roundw
              case rel => exact ⟨1, by decide, rfl, .inr (.inl ⟨rfl, HM9.out⟩), HR9.out, HB9.out⟩
              case measure => simp [intOf]
            · have HMJ := Lib.hid hm
              have HRJ := Lib.hid hrj
              have HBJ := Lib.hid hbj
              clear hm hrj hbj
              obtain ⟨wk, hwk⟩ : ∃ x, x = wr.alloc (.cells #[.string ⟨#[85, 83, 68]⟩, .string ⟨#[98]⟩, .string ⟨#[97]⟩] 86 (0, 0)) := ⟨_, rfl⟩
              have HWK := Lib.hid hwk
              have hbk : Below wr.heap.size wr wk := hwk ▸ one_below wr _
              have HXK : Hid (wk.heap[wr.heap.size]? = some (.cells #[.string ⟨#[85, 83, 68]⟩, .string ⟨#[98]⟩, .string ⟨#[97]⟩] 86 (0, 0))) := Lib.hid (hwk ▸ heap_alloc_new wr _)
              have HM := Lib.hid (blk hbk (lt_blk HMJ.out) HMJ.out)
              have HRK := Lib.hid (blk hbk (lt_blk HRJ.out) HRJ.out)
              have HBK := Lib.hid (HBJ.out.trans (hbk.mono HBJ.out.size))
              have HNK : Hid (¬ wr.heap.size = bm) := Lib.hid (fun e => by have := lt_blk HMJ.out; omega)
              have ix : ∀ W : World, (Instr.index 87 (.agg #[.string ⟨#[85, 83, 68]⟩, .string ⟨#[97]⟩, .string ⟨#[98]⟩, .string ⟨#[85, 83, 68]⟩, .string ⟨#[98]⟩, .string ⟨#[97]⟩]) (.int .i64 1)).run Tryz.prog W = .ok (.agg #[.string ⟨#[85, 83, 68]⟩, .string ⟨#[98]⟩, .string ⟨#[97]⟩]) W := fun W => by kernel_rfl
              clear hwk hbk
              go_upto_region 18 with (first
                | (refine wpList_store_row (P := Tryz.prog) rfl 86 (.tmp 12) (.tmp 66) rfl wr.heap.size #[.string ⟨#[85, 83, 68]⟩, .string ⟨#[98]⟩, .string ⟨#[97]⟩] rfl rfl _ _ (heap_alloc_new wr _) (by kernel_rfl) rfl (by simp [Value.oneCell']) ?_; rw [setRow_new4, ← HWK.out])
                | fail)
              clear ix
              refine Stg.region_lit (fun
                | 0 => .map (some bm)
                | 1 => .agg #[.string ⟨#[85, 83, 68]⟩, .string ⟨#[98]⟩, .string ⟨#[97]⟩]
                | 2 => .int .i64 3
                | 3 => .int .i64 3
                | 4 => .int .i64 0
                | 5 => .tuple #[.int .i64 3, .int .i64 1]
                | 6 => .int .i64 1
                | 7 => undef
                | _ => undef) [(7, (fun V => Keep (fun x => x = bm) wk.drew V ∧ V.heap[bm]? = some (.map #[⟨kAB, .int .i64 2, 0⟩, ⟨kBA, .int .i64 0, 1⟩] 2))), (5, (fun V => Keep (fun x => x = bm) wk.drew V ∧ V.heap[bm]? = some (.map #[⟨kAB, .int .i64 2, 0⟩, ⟨kBA, .int .i64 3, 1⟩] 2)))] (by kernel_rfl) (by kernel_rfl) (by kernel_rfl) ?_ ?_
              · refine ⟨?_, ?_, ?_, ?_, ?_, ?_, ?_, ?_, trivial⟩
                · refine Stg.owes_pure rfl (by kernel_rfl) fun ρ L wo hs' hc' => ?_
                  have h4 : ρ (.tmp 4) = .map (some bm) := hs'.old' 4 (by kernel_rfl)
                  exact Any.ok_move ⟨h4, rfl⟩
                · refine Stg.owes_pure rfl (by kernel_rfl) fun ρ L wo hs' hc' => ?_
                  have h12 : ρ (.tmp 12) = .pointer (some ⟨wr.heap.size, 0, none⟩) := hs'.old' 12 (by kernel_rfl)
                  have hk := Stg.stage_one (C := fun v => Keep (fun x => x = bm) wk.drew v) (Stg.stage_not hs'.world (hs'.beforeR 7 (by kernel_rfl))) (Keep.refl _ _) (fun v hv => hv.1)
                  have c0 : wo.cell? ⟨wr.heap.size, 0, none⟩ = some (.string ⟨#[85, 83, 68]⟩) := cell_blk (hk.blk HXK.out HNK.out) 0
                  have c1 : wo.cell? ⟨wr.heap.size, 1, none⟩ = some (.string ⟨#[98]⟩) := cell_blk (hk.blk HXK.out HNK.out) 1
                  have c2 : wo.cell? ⟨wr.heap.size, 2, none⟩ = some (.string ⟨#[97]⟩) := cell_blk (hk.blk HXK.out HNK.out) 2
                  go_simp
                  try exact ⟨rfl, rfl⟩
                · refine Stg.owes_pure rfl (by kernel_rfl) fun ρ L wo hs' hc' => ?_
                  have h67 : ρ (.tmp 67) = .map (some bm) := hs'.new' 67 0 (by kernel_rfl)
                  have h68 : ρ (.tmp 68) = .agg #[.string ⟨#[85, 83, 68]⟩, .string ⟨#[98]⟩, .string ⟨#[97]⟩] := hs'.new' 68 1 (by kernel_rfl)
                  rcases Stg.stage_one (C := fun v => v.heap[bm]? = some (.map #[⟨kAB, .int .i64 2, 0⟩, ⟨kBA, .int .i64 3, 1⟩] 2) ∨ v.heap[bm]? = some (.map #[⟨kAB, .int .i64 2, 0⟩, ⟨kBA, .int .i64 3, 1⟩] 2)) (Stg.stage_not hs'.world (hs'.beforeR 7 (by kernel_rfl))) (.inl HM.out) (fun v hv => .inr hv.2) with hm | hm
                  · exact ok_lkr (key := kBA) h67 h68 (lkBA2 hm) ⟨rfl, rfl⟩
                  · exact ok_lkr (key := kBA) h67 h68 (lkBA2 hm) ⟨rfl, rfl⟩
                · refine Stg.owes_pure rfl (by kernel_rfl) fun ρ L wo hs' hc' => ?_
                  have h10 : ρ (.tmp 10) = .int .i64 3 := hs'.old' 10 (by kernel_rfl)
                  exact Any.ok_move ⟨h10, rfl⟩
                · refine Stg.owes_pure rfl (by kernel_rfl) fun ρ L wo hs' hc' => ?_
                  have h69 : ρ (.tmp 69) = .int .i64 3 := hs'.new' 69 2 (by kernel_rfl)
                  have h70 : ρ (.tmp 70) = .int .i64 3 := hs'.new' 70 3 (by kernel_rfl)
                  go_simp
                  try first | exact ⟨rfl, rfl⟩ | rfl
                · refine Stg.owes_turn (pre := [(7, (fun V => Keep (fun x => x = bm) wk.drew V ∧ V.heap[bm]? = some (.map #[⟨kAB, .int .i64 2, 0⟩, ⟨kBA, .int .i64 0, 1⟩] 2)))]) rfl rfl (by kernel_rfl) fun ρ L wo hs' hc' hw => ?_
                  have h67 : ρ (.tmp 67) = .map (some bm) := hs'.new' 67 0 (by kernel_rfl)
                  have h68 : ρ (.tmp 68) = .agg #[.string ⟨#[85, 83, 68]⟩, .string ⟨#[98]⟩, .string ⟨#[97]⟩] := hs'.new' 68 1 (by kernel_rfl)
                  have e0 : wo = wk.drew := hw
                  have hm : wo.heap[bm]? = some (.map #[⟨kAB, .int .i64 2, 0⟩, ⟨kBA, .int .i64 3, 1⟩] 2) := by rw [e0]; exact HM.out
                  exact ok_mer (key := kBA) h67 h68 (meBA2 hm) ⟨rfl, by rw [← e0]; exact set_kept hm _, set_heap hm _⟩
                · refine Stg.owes_pure rfl (by kernel_rfl) fun ρ L wo hs' hc' => ?_
                  have h72 : ρ (.tmp 72) = .tuple #[.int .i64 3, .int .i64 1] := hs'.new' 72 5 (by kernel_rfl)
                  go_simp
                  try first | exact ⟨rfl, rfl⟩ | rfl
                · refine Stg.owes_turn (pre := []) rfl rfl (by kernel_rfl) fun ρ L wo hs' hc' hw => ?_
                  have h67 : ρ (.tmp 67) = .map (some bm) := hs'.new' 67 0 (by kernel_rfl)
                  have h73 : ρ (.tmp 73) = .int .i64 1 := hs'.new' 73 6 (by kernel_rfl)
                  have h71 : ρ (.tmp 71) = .int .i64 0 := hs'.new' 71 4 (by kernel_rfl)
                  have hr := Stg.stage_head hw (hs'.behindR 6 5 (by kernel_rfl))
                  exact ok_esr (n := 1) h67 h73 h71 (esBA2 hr.2) ⟨rfl, hr.1.trans (set_kept hr.2 _) (fun _ _ h => h), set_heap hr.2 _⟩
              intro L w9 hL hst
              obtain ⟨hk9, hm9⟩ := Stg.stage_head hst (hL 7 (by decide))
              have HK9 := Lib.hid (Keep.undrew hk9)
              have HM9 := Lib.hid hm9
              clear hL hst hk9 hm9
              simp only [Any.putAll]
              go_frame
              have HR9 := Lib.hid (HK9.out.blk HRK.out HNR.out)
              have HX9 := Lib.hid (HK9.out.blk HXK.out HNK.out)
              have x0 := cell_blk HX9.out 0
              have x1 := cell_blk HX9.out 1
              have x2 := cell_blk HX9.out 2
              have HB9 : Hid (Below w.heap.size w w9) := Lib.hid (HK9.out.behind HBK.out HBK.out.size (fun q hq e => by have := HBM.out; omega))
              have hlk : (Instr.lookup 68 (.map (some bm)) (.agg #[.string ⟨#[85, 83, 68]⟩, .string ⟨#[98]⟩, .string ⟨#[97]⟩]) false).run Tryz.prog w9 = .ok (.int .i64 0) w9 := lkBA2 HM9.out
              have hdl : ∀ ty, (Builtin.delete_ #[68, 86] ty #[.map (some bm), .agg #[.string ⟨#[85, 83, 68]⟩, .string ⟨#[98]⟩, .string ⟨#[97]⟩]]).run Tryz.prog w9 = .ok (.tuple #[]) (ChangeMaps.setBlock w9 bm (.map #[⟨kAB, .int .i64 2, 0⟩] 2)) := fun ty => delBA2 ty HM9.out
              go_wp2_with (first
                | ((with_reducible refine wpl_der ?_ ?_ ?_ hdl ?_); rfl; rfl; rfl)
                | fail)
              have HMD := Lib.hid (set_heap HM9.out (.map #[⟨kAB, .int .i64 2, 0⟩] 2))
              have HKD := Lib.hid (set_kept HM9.out (.map #[⟨kAB, .int .i64 2, 0⟩] 2))
              have HRD := Lib.hid (HKD.out.blk HR9.out HNR.out)
              have HBD : Hid (Below w.heap.size w (ChangeMaps.setBlock w9 bm (.map #[⟨kAB, .int .i64 2, 0⟩] 2))) := Lib.hid (HKD.out.behind HB9.out HB9.out.size (fun q hq e => by have := HBM.out; omega))
              go_roundw
              case rel => exact ⟨2, by decide, rfl, .inr (.inr ⟨rfl, HMD.out⟩), HRD.out, HBD.out⟩
              case measure => simp [intOf]
            · have HMX := Lib.hid hm
              have HRX := Lib.hid hrj
              have HBX := Lib.hid hbj
              clear hm hrj hbj hj
              go_wp2_with fail
              go_roundw
              case rel => exact ⟨.inr (.inl ⟨HMX.out, HRX.out⟩), HBX.out⟩
              case measure => (simp only [itLeft4, HMX.out, HRX.out, HM0.out, HR0.out, lf1, lf2]); decide
        · have HRN : Hid (wn.heap[r]? = some (.mapIter (some bm) 2 #[1] 2)) := Lib.hid hnx.2.1
          have HMN := Lib.hid hnx.2.2.1
          have hen := hnx.2.2.2
          clear hnx
          unfold kBA at hen ⊢
          simp only at hen ⊢
          obtain ⟨wp, hwp⟩ : ∃ x, x = wn.alloc (.cells #[.string ⟨#[85, 83, 68]⟩, .string ⟨#[98]⟩, .string ⟨#[97]⟩] 86 (0, 0)) := ⟨_, rfl⟩
          obtain ⟨wq, hwq⟩ : ∃ x, x = wp.alloc (.cells #[.string ⟨#[85, 83, 68]⟩, .string ⟨#[97]⟩, .string ⟨#[98]⟩] 86 (0, 0)) := ⟨_, rfl⟩
          have HWP := Lib.hid hwp
          have HWQ := Lib.hid hwq
          have hbp : Below wn.heap.size wn wp := hwp ▸ one_below _ _
          have hbq : Below wp.heap.size wp wq := hwq ▸ one_below _ _
          have HX7 : Hid (wp.heap[wn.heap.size]? = some (.cells #[.string ⟨#[85, 83, 68]⟩, .string ⟨#[98]⟩, .string ⟨#[97]⟩] 86 (0, 0))) := Lib.hid (hwp ▸ heap_alloc_new _ _)
          have HX7q := Lib.hid (blk hbq (lt_blk HX7.out) HX7.out)
          have HX9q : Hid (wq.heap[wp.heap.size]? = some (.cells #[.string ⟨#[85, 83, 68]⟩, .string ⟨#[97]⟩, .string ⟨#[98]⟩] 86 (0, 0))) := Lib.hid (hwq ▸ heap_alloc_new _ _)
          have HBP := Lib.hid (hbp.trans (hbq.mono hbp.size))
          have HMQ := Lib.hid (blk HBP.out (lt_blk HMN.out) HMN.out)
          have HRQ := Lib.hid (blk HBP.out (lt_blk HRN.out) HRN.out)
          have HBQ := Lib.hid (HBN.out.trans (HBP.out.mono HBN.out.size))
          have p0 := cell_blk HX7.out 0
          have p1 := cell_blk HX7.out 1
          have p2 := cell_blk HX7.out 2
          clear hwp hwq hbp hbq
          go_upto_region 12 with (first
            | (refine wpList_store_row (P := Tryz.prog) rfl 86 (.tmp 7) (.tmp 45) rfl wn.heap.size #[.string ⟨#[85, 83, 68]⟩, .string ⟨#[98]⟩, .string ⟨#[97]⟩] rfl rfl _ _ (heap_alloc_new wn _) (by kernel_rfl) rfl (by simp [Value.oneCell']) ?_; rw [setRow_new4, ← HWP.out])
            | fail)
          go_upto_region 13 with (first
            | (refine wpList_store_row (P := Tryz.prog) rfl 86 (.tmp 9) (.tmp 53) rfl wp.heap.size #[.string ⟨#[85, 83, 68]⟩, .string ⟨#[97]⟩, .string ⟨#[98]⟩] rfl rfl _ _ (heap_alloc_new wp _) (by kernel_rfl) rfl (by simp [Value.oneCell']) ?_; rw [setRow_new4, ← HWQ.out])
            | fail)
          clear p0 p1 p2 hen
          have q0 := cell_blk HX9q.out 0
          have q1 := cell_blk HX9q.out 1
          have q2 := cell_blk HX9q.out 2
          have p0 := cell_blk HX7q.out 0
          have p1 := cell_blk HX7q.out 1
          have p2 := cell_blk HX7q.out 2
          have hlk : (Instr.lookup 68 (.map (some bm)) (.agg #[.string ⟨#[85, 83, 68]⟩, .string ⟨#[97]⟩, .string ⟨#[98]⟩]) false).run Tryz.prog wq = .ok (.int .i64 5) wq := lkAB2 HMQ.out
          go_wp2_with (first
            | ((with_reducible refine Any.wpl_min_is (k := .i64) (p := 3) (q := 5) (r := 3) ?_ ?_ ?_ ?_ ?_); rfl; rfl; rfl; rfl)
            | fail)
          clear p0 p1 p2 q0 q1 q2 hlk
          go_loopw [12, 64] (fun _ i wj => ∃ j : Nat, j ≤ 2 ∧ i = .int .i64 j ∧ ((j = 0 ∧ wj.heap[bm]? = some (.map #[⟨kAB, .int .i64 5, 0⟩, ⟨kBA, .int .i64 3, 1⟩] 2)) ∨ (j = 1 ∧ wj.heap[bm]? = some (.map #[⟨kAB, .int .i64 5, 0⟩] 2)) ∨ (j = 2 ∧ wj.heap[bm]? = some (.map #[⟨kAB, .int .i64 2, 0⟩] 2))) ∧ wj.heap[r]? = some (.mapIter (some bm) 2 #[1] 2) ∧ Below w.heap.size w wj) (fun _ i _ => 2 - (intOf i).toNat)
          case atStart => exact ⟨0, by decide, rfl, .inl ⟨rfl, HMQ.out⟩, HRQ.out, HBQ.out⟩
          case round =>
            obtain ⟨j, hj, rfl, hm, hrj, hbj⟩ := hrel
            clear HMQ HRQ HBQ HX7q HX9q HX7 HBP HWP HWQ HMN HRN HBN
            rcases hm with ⟨rfl, hm⟩ | ⟨rfl, hm⟩ | ⟨rfl, hm⟩
            · have HMJ := Lib.hid hm
              have HRJ := Lib.hid hrj
              have HBJ := Lib.hid hbj
              clear hm hrj hbj
              obtain ⟨wk, hwk⟩ : ∃ x, x = wr.alloc (.cells #[.string ⟨#[85, 83, 68]⟩, .string ⟨#[98]⟩, .string ⟨#[97]⟩] 86 (0, 0)) := ⟨_, rfl⟩
              have HWK := Lib.hid hwk
              have hbk : Below wr.heap.size wr wk := hwk ▸ one_below wr _
              have HXK : Hid (wk.heap[wr.heap.size]? = some (.cells #[.string ⟨#[85, 83, 68]⟩, .string ⟨#[98]⟩, .string ⟨#[97]⟩] 86 (0, 0))) := Lib.hid (hwk ▸ heap_alloc_new wr _)
              have HM := Lib.hid (blk hbk (lt_blk HMJ.out) HMJ.out)
              have HRK := Lib.hid (blk hbk (lt_blk HRJ.out) HRJ.out)
              have HBK := Lib.hid (HBJ.out.trans (hbk.mono HBJ.out.size))
              have HNK : Hid (¬ wr.heap.size = bm) := Lib.hid (fun e => by have := lt_blk HMJ.out; omega)
              have ix : ∀ W : World, (Instr.index 87 (.agg #[.string ⟨#[85, 83, 68]⟩, .string ⟨#[98]⟩, .string ⟨#[97]⟩, .string ⟨#[85, 83, 68]⟩, .string ⟨#[97]⟩, .string ⟨#[98]⟩]) (.int .i64 0)).run Tryz.prog W = .ok (.agg #[.string ⟨#[85, 83, 68]⟩, .string ⟨#[98]⟩, .string ⟨#[97]⟩]) W := fun W => by kernel_rfl
              clear hwk hbk
              go_upto_region 18 with (first
                | (refine wpList_store_row (P := Tryz.prog) rfl 86 (.tmp 12) (.tmp 66) rfl wr.heap.size #[.string ⟨#[85, 83, 68]⟩, .string ⟨#[98]⟩, .string ⟨#[97]⟩] rfl rfl _ _ (heap_alloc_new wr _) (by kernel_rfl) rfl (by simp [Value.oneCell']) ?_; rw [setRow_new4, ← HWK.out])
                | fail)
              clear ix
              refine Stg.region_lit (fun
                | 0 => .map (some bm)
                | 1 => .agg #[.string ⟨#[85, 83, 68]⟩, .string ⟨#[98]⟩, .string ⟨#[97]⟩]
                | 2 => .int .i64 3
                | 3 => .int .i64 3
                | 4 => .int .i64 0
                | 5 => .tuple #[.int .i64 3, .int .i64 1]
                | 6 => .int .i64 1
                | 7 => undef
                | _ => undef) [(7, (fun V => Keep (fun x => x = bm) wk.drew V ∧ V.heap[bm]? = some (.map #[⟨kAB, .int .i64 5, 0⟩, ⟨kBA, .int .i64 0, 1⟩] 2))), (5, (fun V => Keep (fun x => x = bm) wk.drew V ∧ V.heap[bm]? = some (.map #[⟨kAB, .int .i64 5, 0⟩, ⟨kBA, .int .i64 3, 1⟩] 2)))] (by kernel_rfl) (by kernel_rfl) (by kernel_rfl) ?_ ?_
              · refine ⟨?_, ?_, ?_, ?_, ?_, ?_, ?_, ?_, trivial⟩
                · refine Stg.owes_pure rfl (by kernel_rfl) fun ρ L wo hs' hc' => ?_
                  have h4 : ρ (.tmp 4) = .map (some bm) := hs'.old' 4 (by kernel_rfl)
                  exact Any.ok_move ⟨h4, rfl⟩
                · refine Stg.owes_pure rfl (by kernel_rfl) fun ρ L wo hs' hc' => ?_
                  have h12 : ρ (.tmp 12) = .pointer (some ⟨wr.heap.size, 0, none⟩) := hs'.old' 12 (by kernel_rfl)
                  have hk := Stg.stage_one (C := fun v => Keep (fun x => x = bm) wk.drew v) (Stg.stage_not hs'.world (hs'.beforeR 7 (by kernel_rfl))) (Keep.refl _ _) (fun v hv => hv.1)
                  have c0 : wo.cell? ⟨wr.heap.size, 0, none⟩ = some (.string ⟨#[85, 83, 68]⟩) := cell_blk (hk.blk HXK.out HNK.out) 0
                  have c1 : wo.cell? ⟨wr.heap.size, 1, none⟩ = some (.string ⟨#[98]⟩) := cell_blk (hk.blk HXK.out HNK.out) 1
                  have c2 : wo.cell? ⟨wr.heap.size, 2, none⟩ = some (.string ⟨#[97]⟩) := cell_blk (hk.blk HXK.out HNK.out) 2
                  go_simp
                  try exact ⟨rfl, rfl⟩
                · refine Stg.owes_pure rfl (by kernel_rfl) fun ρ L wo hs' hc' => ?_
                  have h67 : ρ (.tmp 67) = .map (some bm) := hs'.new' 67 0 (by kernel_rfl)
                  have h68 : ρ (.tmp 68) = .agg #[.string ⟨#[85, 83, 68]⟩, .string ⟨#[98]⟩, .string ⟨#[97]⟩] := hs'.new' 68 1 (by kernel_rfl)
                  rcases Stg.stage_one (C := fun v => v.heap[bm]? = some (.map #[⟨kAB, .int .i64 5, 0⟩, ⟨kBA, .int .i64 3, 1⟩] 2) ∨ v.heap[bm]? = some (.map #[⟨kAB, .int .i64 5, 0⟩, ⟨kBA, .int .i64 3, 1⟩] 2)) (Stg.stage_not hs'.world (hs'.beforeR 7 (by kernel_rfl))) (.inl HM.out) (fun v hv => .inr hv.2) with hm | hm
                  · exact ok_lkr (key := kBA) h67 h68 (lkBA2 hm) ⟨rfl, rfl⟩
                  · exact ok_lkr (key := kBA) h67 h68 (lkBA2 hm) ⟨rfl, rfl⟩
                · refine Stg.owes_pure rfl (by kernel_rfl) fun ρ L wo hs' hc' => ?_
                  have h10 : ρ (.tmp 10) = .int .i64 3 := hs'.old' 10 (by kernel_rfl)
                  exact Any.ok_move ⟨h10, rfl⟩
                · refine Stg.owes_pure rfl (by kernel_rfl) fun ρ L wo hs' hc' => ?_
                  have h69 : ρ (.tmp 69) = .int .i64 3 := hs'.new' 69 2 (by kernel_rfl)
                  have h70 : ρ (.tmp 70) = .int .i64 3 := hs'.new' 70 3 (by kernel_rfl)
                  go_simp
                  try first | exact ⟨rfl, rfl⟩ | rfl
                · refine Stg.owes_turn (pre := [(7, (fun V => Keep (fun x => x = bm) wk.drew V ∧ V.heap[bm]? = some (.map #[⟨kAB, .int .i64 5, 0⟩, ⟨kBA, .int .i64 0, 1⟩] 2)))]) rfl rfl (by kernel_rfl) fun ρ L wo hs' hc' hw => ?_
                  have h67 : ρ (.tmp 67) = .map (some bm) := hs'.new' 67 0 (by kernel_rfl)
                  have h68 : ρ (.tmp 68) = .agg #[.string ⟨#[85, 83, 68]⟩, .string ⟨#[98]⟩, .string ⟨#[97]⟩] := hs'.new' 68 1 (by kernel_rfl)
                  have e0 : wo = wk.drew := hw
                  have hm : wo.heap[bm]? = some (.map #[⟨kAB, .int .i64 5, 0⟩, ⟨kBA, .int .i64 3, 1⟩] 2) := by rw [e0]; exact HM.out
                  exact ok_mer (key := kBA) h67 h68 (meBA2 hm) ⟨rfl, by rw [← e0]; exact set_kept hm _, set_heap hm _⟩
                · refine Stg.owes_pure rfl (by kernel_rfl) fun ρ L wo hs' hc' => ?_
                  have h72 : ρ (.tmp 72) = .tuple #[.int .i64 3, .int .i64 1] := hs'.new' 72 5 (by kernel_rfl)
                  go_simp
                  try first | exact ⟨rfl, rfl⟩ | rfl
                · refine Stg.owes_turn (pre := []) rfl rfl (by kernel_rfl) fun ρ L wo hs' hc' hw => ?_
                  have h67 : ρ (.tmp 67) = .map (some bm) := hs'.new' 67 0 (by kernel_rfl)
                  have h73 : ρ (.tmp 73) = .int .i64 1 := hs'.new' 73 6 (by kernel_rfl)
                  have h71 : ρ (.tmp 71) = .int .i64 0 := hs'.new' 71 4 (by kernel_rfl)
                  have hr := Stg.stage_head hw (hs'.behindR 6 5 (by kernel_rfl))
                  exact ok_esr (n := 1) h67 h73 h71 (esBA2 hr.2) ⟨rfl, hr.1.trans (set_kept hr.2 _) (fun _ _ h => h), set_heap hr.2 _⟩
              intro L w9 hL hst
              obtain ⟨hk9, hm9⟩ := Stg.stage_head hst (hL 7 (by decide))
              have HK9 := Lib.hid (Keep.undrew hk9)
              have HM9 := Lib.hid hm9
              clear hL hst hk9 hm9
              simp only [Any.putAll]
              go_frame
              have HR9 := Lib.hid (HK9.out.blk HRK.out HNR.out)
              have HX9 := Lib.hid (HK9.out.blk HXK.out HNK.out)
              have x0 := cell_blk HX9.out 0
              have x1 := cell_blk HX9.out 1
              have x2 := cell_blk HX9.out 2
              have HB9 : Hid (Below w.heap.size w w9) := Lib.hid (HK9.out.behind HBK.out HBK.out.size (fun q hq e => by have := HBM.out; omega))
              have hlk : (Instr.lookup 68 (.map (some bm)) (.agg #[.string ⟨#[85, 83, 68]⟩, .string ⟨#[98]⟩, .string ⟨#[97]⟩]) false).run Tryz.prog w9 = .ok (.int .i64 0) w9 := lkBA2 HM9.out
              have hdl : ∀ ty, (Builtin.delete_ #[68, 86] ty #[.map (some bm), .agg #[.string ⟨#[85, 83, 68]⟩, .string ⟨#[98]⟩, .string ⟨#[97]⟩]]).run Tryz.prog w9 = .ok (.tuple #[]) (ChangeMaps.setBlock w9 bm (.map #[⟨kAB, .int .i64 5, 0⟩] 2)) := fun ty => delBA2 ty HM9.out
              go_wp2_with (first
                | ((with_reducible refine wpl_der ?_ ?_ ?_ hdl ?_); rfl; rfl; rfl)
                | fail)
              have HMD := Lib.hid (set_heap HM9.out (.map #[⟨kAB, .int .i64 5, 0⟩] 2))
              have HKD := Lib.hid (set_kept HM9.out (.map #[⟨kAB, .int .i64 5, 0⟩] 2))
              have HRD := Lib.hid (HKD.out.blk HR9.out HNR.out)
              have HBD : Hid (Below w.heap.size w (ChangeMaps.setBlock w9 bm (.map #[⟨kAB, .int .i64 5, 0⟩] 2))) := Lib.hid (HKD.out.behind HB9.out HB9.out.size (fun q hq e => by have := HBM.out; omega))
              go_roundw
              case rel => exact ⟨1, by decide, rfl, .inr (.inl ⟨rfl, HMD.out⟩), HRD.out, HBD.out⟩
              case measure => simp [intOf]
            · have HMJ := Lib.hid hm
              have HRJ := Lib.hid hrj
              have HBJ := Lib.hid hbj
              clear hm hrj hbj
              obtain ⟨wk, hwk⟩ : ∃ x, x = wr.alloc (.cells #[.string ⟨#[85, 83, 68]⟩, .string ⟨#[97]⟩, .string ⟨#[98]⟩] 86 (0, 0)) := ⟨_, rfl⟩
              have HWK := Lib.hid hwk
              have hbk : Below wr.heap.size wr wk := hwk ▸ one_below wr _
              have HXK : Hid (wk.heap[wr.heap.size]? = some (.cells #[.string ⟨#[85, 83, 68]⟩, .string ⟨#[97]⟩, .string ⟨#[98]⟩] 86 (0, 0))) := Lib.hid (hwk ▸ heap_alloc_new wr _)
              have HM := Lib.hid (blk hbk (lt_blk HMJ.out) HMJ.out)
              have HRK := Lib.hid (blk hbk (lt_blk HRJ.out) HRJ.out)
              have HBK := Lib.hid (HBJ.out.trans (hbk.mono HBJ.out.size))
              have HNK : Hid (¬ wr.heap.size = bm) := Lib.hid (fun e => by have := lt_blk HMJ.out; omega)
              have ix : ∀ W : World, (Instr.index 87 (.agg #[.string ⟨#[85, 83, 68]⟩, .string ⟨#[98]⟩, .string ⟨#[97]⟩, .string ⟨#[85, 83, 68]⟩, .string ⟨#[97]⟩, .string ⟨#[98]⟩]) (.int .i64 1)).run Tryz.prog W = .ok (.agg #[.string ⟨#[85, 83, 68]⟩, .string ⟨#[97]⟩, .string ⟨#[98]⟩]) W := fun W => by kernel_rfl
              clear hwk hbk
              go_upto_region 18 with (first
                | (refine wpList_store_row (P := Tryz.prog) rfl 86 (.tmp 12) (.tmp 66) rfl wr.heap.size #[.string ⟨#[85, 83, 68]⟩, .string ⟨#[97]⟩, .string ⟨#[98]⟩] rfl rfl _ _ (heap_alloc_new wr _) (by kernel_rfl) rfl (by simp [Value.oneCell']) ?_; rw [setRow_new4, ← HWK.out])
                | fail)
              clear ix
              refine Stg.region_lit (fun
                | 0 => .map (some bm)
                | 1 => .agg #[.string ⟨#[85, 83, 68]⟩, .string ⟨#[97]⟩, .string ⟨#[98]⟩]
                | 2 => .int .i64 5
                | 3 => .int .i64 3
                | 4 => .int .i64 2
                | 5 => .tuple #[.int .i64 5, .int .i64 0]
                | 6 => .int .i64 0
                | 7 => undef
                | _ => undef) [(7, (fun V => Keep (fun x => x = bm) wk.drew V ∧ V.heap[bm]? = some (.map #[⟨kAB, .int .i64 2, 0⟩] 2))), (5, (fun V => Keep (fun x => x = bm) wk.drew V ∧ V.heap[bm]? = some (.map #[⟨kAB, .int .i64 5, 0⟩] 2)))] (by kernel_rfl) (by kernel_rfl) (by kernel_rfl) ?_ ?_
              · refine ⟨?_, ?_, ?_, ?_, ?_, ?_, ?_, ?_, trivial⟩
                · refine Stg.owes_pure rfl (by kernel_rfl) fun ρ L wo hs' hc' => ?_
                  have h4 : ρ (.tmp 4) = .map (some bm) := hs'.old' 4 (by kernel_rfl)
                  exact Any.ok_move ⟨h4, rfl⟩
                · refine Stg.owes_pure rfl (by kernel_rfl) fun ρ L wo hs' hc' => ?_
                  have h12 : ρ (.tmp 12) = .pointer (some ⟨wr.heap.size, 0, none⟩) := hs'.old' 12 (by kernel_rfl)
                  have hk := Stg.stage_one (C := fun v => Keep (fun x => x = bm) wk.drew v) (Stg.stage_not hs'.world (hs'.beforeR 7 (by kernel_rfl))) (Keep.refl _ _) (fun v hv => hv.1)
                  have c0 : wo.cell? ⟨wr.heap.size, 0, none⟩ = some (.string ⟨#[85, 83, 68]⟩) := cell_blk (hk.blk HXK.out HNK.out) 0
                  have c1 : wo.cell? ⟨wr.heap.size, 1, none⟩ = some (.string ⟨#[97]⟩) := cell_blk (hk.blk HXK.out HNK.out) 1
                  have c2 : wo.cell? ⟨wr.heap.size, 2, none⟩ = some (.string ⟨#[98]⟩) := cell_blk (hk.blk HXK.out HNK.out) 2
                  go_simp
                  try exact ⟨rfl, rfl⟩
                · refine Stg.owes_pure rfl (by kernel_rfl) fun ρ L wo hs' hc' => ?_
                  have h67 : ρ (.tmp 67) = .map (some bm) := hs'.new' 67 0 (by kernel_rfl)
                  have h68 : ρ (.tmp 68) = .agg #[.string ⟨#[85, 83, 68]⟩, .string ⟨#[97]⟩, .string ⟨#[98]⟩] := hs'.new' 68 1 (by kernel_rfl)
                  rcases Stg.stage_one (C := fun v => v.heap[bm]? = some (.map #[⟨kAB, .int .i64 5, 0⟩] 2) ∨ v.heap[bm]? = some (.map #[⟨kAB, .int .i64 5, 0⟩] 2)) (Stg.stage_not hs'.world (hs'.beforeR 7 (by kernel_rfl))) (.inl HM.out) (fun v hv => .inr hv.2) with hm | hm
                  · exact ok_lkr (key := kAB) h67 h68 (lkAB1 hm) ⟨rfl, rfl⟩
                  · exact ok_lkr (key := kAB) h67 h68 (lkAB1 hm) ⟨rfl, rfl⟩
                · refine Stg.owes_pure rfl (by kernel_rfl) fun ρ L wo hs' hc' => ?_
                  have h10 : ρ (.tmp 10) = .int .i64 3 := hs'.old' 10 (by kernel_rfl)
                  exact Any.ok_move ⟨h10, rfl⟩
                · refine Stg.owes_pure rfl (by kernel_rfl) fun ρ L wo hs' hc' => ?_
                  have h69 : ρ (.tmp 69) = .int .i64 5 := hs'.new' 69 2 (by kernel_rfl)
                  have h70 : ρ (.tmp 70) = .int .i64 3 := hs'.new' 70 3 (by kernel_rfl)
                  go_simp
                  try first | exact ⟨rfl, rfl⟩ | rfl
                · refine Stg.owes_turn (pre := [(7, (fun V => Keep (fun x => x = bm) wk.drew V ∧ V.heap[bm]? = some (.map #[⟨kAB, .int .i64 2, 0⟩] 2)))]) rfl rfl (by kernel_rfl) fun ρ L wo hs' hc' hw => ?_
                  have h67 : ρ (.tmp 67) = .map (some bm) := hs'.new' 67 0 (by kernel_rfl)
                  have h68 : ρ (.tmp 68) = .agg #[.string ⟨#[85, 83, 68]⟩, .string ⟨#[97]⟩, .string ⟨#[98]⟩] := hs'.new' 68 1 (by kernel_rfl)
                  have e0 : wo = wk.drew := hw
                  have hm : wo.heap[bm]? = some (.map #[⟨kAB, .int .i64 5, 0⟩] 2) := by rw [e0]; exact HM.out
                  exact ok_mer (key := kAB) h67 h68 (meAB1 hm) ⟨rfl, by rw [← e0]; exact set_kept hm _, set_heap hm _⟩
                · refine Stg.owes_pure rfl (by kernel_rfl) fun ρ L wo hs' hc' => ?_
                  have h72 : ρ (.tmp 72) = .tuple #[.int .i64 5, .int .i64 0] := hs'.new' 72 5 (by kernel_rfl)
                  go_simp
                  try first | exact ⟨rfl, rfl⟩ | rfl
                · refine Stg.owes_turn (pre := []) rfl rfl (by kernel_rfl) fun ρ L wo hs' hc' hw => ?_
                  have h67 : ρ (.tmp 67) = .map (some bm) := hs'.new' 67 0 (by kernel_rfl)
                  have h73 : ρ (.tmp 73) = .int .i64 0 := hs'.new' 73 6 (by kernel_rfl)
                  have h71 : ρ (.tmp 71) = .int .i64 2 := hs'.new' 71 4 (by kernel_rfl)
                  have hr := Stg.stage_head hw (hs'.behindR 6 5 (by kernel_rfl))
                  exact ok_esr (n := 0) h67 h73 h71 (esAB1 hr.2) ⟨rfl, hr.1.trans (set_kept hr.2 _) (fun _ _ h => h), set_heap hr.2 _⟩
              intro L w9 hL hst
              obtain ⟨hk9, hm9⟩ := Stg.stage_head hst (hL 7 (by decide))
              have HK9 := Lib.hid (Keep.undrew hk9)
              have HM9 := Lib.hid hm9
              clear hL hst hk9 hm9
              simp only [Any.putAll]
              go_frame
              have HR9 := Lib.hid (HK9.out.blk HRK.out HNR.out)
              have HX9 := Lib.hid (HK9.out.blk HXK.out HNK.out)
              have x0 := cell_blk HX9.out 0
              have x1 := cell_blk HX9.out 1
              have x2 := cell_blk HX9.out 2
              have HB9 : Hid (Below w.heap.size w w9) := Lib.hid (HK9.out.behind HBK.out HBK.out.size (fun q hq e => by have := HBM.out; omega))
              have hlk : (Instr.lookup 68 (.map (some bm)) (.agg #[.string ⟨#[85, 83, 68]⟩, .string ⟨#[97]⟩, .string ⟨#[98]⟩]) false).run Tryz.prog w9 = .ok (.int .i64 2) w9 := lkAB1 HM9.out
              go_wp2_with fail
              go_roundw
              case rel => exact ⟨2, by decide, rfl, .inr (.inr ⟨rfl, HM9.out⟩), HR9.out, HB9.out⟩
              case measure => simp [intOf]
            · have HMX := Lib.hid hm
              have HRX := Lib.hid hrj
              have HBX := Lib.hid hbj
              clear hm hrj hbj hj
              go_wp2_with fail
              go_roundw
              case rel => exact ⟨.inr (.inr (.inl ⟨HMX.out, HRX.out⟩)), HBX.out⟩
              case measure => (simp only [itLeft4, HMX.out, HRX.out, HM0.out, HR0.out, lf1, lf3]); decide
      · have HM0 := Lib.hid hm
        have HR0 := Lib.hid hr
        have HOLD := Lib.hid hold2
        have HLL : Hid ((leftOf #[⟨kAB, .int .i64 2, 0⟩] #[0]).toList = []) := Lib.hid (by kernel_rfl)
        clear hm hr
        go_wp2_with (first
          | ((with_reducible refine wpl_nxN ?_ ?_ HR0.out HM0.out HOLD.out (Nat.le_refl _) HLL.out ?_); rfl; rfl)
          | ((with_reducible refine wpl_rgr (b := bm) ?_ ?_ (rg_run HM0.out) ?_); rfl; rfl; go_frame)
          | fail)
        obtain ⟨r2, hr2⟩ : ∃ b, b = wr.heap.size := ⟨_, rfl⟩
        obtain ⟨wt, hwt⟩ : ∃ x, x = wr.alloc (.mapIter (some bm) 2 #[] 2) := ⟨_, rfl⟩
        rw [← hwt, ← hr2]
        have hbt : Below wr.heap.size wr wt := hwt ▸ one_below wr _
        have HRT : Hid (wt.heap[r2]? = some (.mapIter (some bm) 2 #[] 2)) := Lib.hid (by rw [hwt, hr2]; exact heap_alloc_new wr _)
        have HMT := Lib.hid (blk hbt (lt_blk HM0.out) HM0.out)
        have HBT := Lib.hid (HB0.out.trans (hbt.mono HB0.out.size))
        have HRM2 : Hid (w.heap.size ≤ r2) := Lib.hid (by rw [hr2]; exact HB0.out.size)
        clear hwt hbt hr2 HM0 HB0 HR0 HLL
        go_loopw [14] (fun _ wr => ∃ b : Bool, wr.heap[bm]? = some (.map #[⟨kAB, .int .i64 2, 0⟩] 2) ∧ wr.heap[r2]? = some (.mapIter (some bm) 2 (if b then #[0] else #[]) 2) ∧ Below w.heap.size w wr) (fun _ wr => itLeft4 wr r2 bm)
        case atStart => exact ⟨false, HMT.out, HRT.out, HBT.out⟩
        case round =>
        obtain ⟨bb, hm, hr, hbel⟩ := hrel
        have HM0 := Lib.hid hm
        have HB0 := Lib.hid hbel
        clear hm hbel HMT HRT HBT
        cases bb
        · have HR0 : Hid (wr.heap[r2]? = some (.mapIter (some bm) 2 #[] 2)) := Lib.hid hr
          obtain ⟨L, hL⟩ : ∃ L, L = [(⟨kAB, .int .i64 2, 0⟩ : MapEntry)] := ⟨_, rfl⟩
          have HLS : Hid ((leftOf #[⟨kAB, .int .i64 2, 0⟩] #[]).toList = L ∧ L ≠ []) := Lib.hid (by rw [hL]; exact ⟨by kernel_rfl, List.cons_ne_nil _ _⟩)
          have HL2 := Lib.hid hL
          clear hr hL
          go_wp2_with (first
            | ((with_reducible refine wpl_nxS ?_ ?_ HR0.out HM0.out HOLD.out (Nat.le_refl _) (by decide) HLS.out ?_); rfl; rfl)
            | fail)
          intro e he wn hnx
          rw [HL2.out] at he
          obtain rfl : e = ⟨kAB, .int .i64 2, 0⟩ := by simpa using he
          have HBN : Hid (Below w.heap.size w wn) := Lib.hid (hnx.1.behind HB0.out HB0.out.size (fun q hq e => by have := HRM2.out; omega))
          have HRN : Hid (wn.heap[r2]? = some (.mapIter (some bm) 2 #[0] 2)) := Lib.hid hnx.2.1
          have HMN := Lib.hid hnx.2.2.1
          have hen := hnx.2.2.2
          clear he hnx HLS HL2
          unfold kAB at hen ⊢
          simp only at hen ⊢
          go_wp2_with fail
          go_roundw
          case rel => exact ⟨true, HMN.out, HRN.out, HBN.out⟩
          case measure => (simp only [itLeft4, HMN.out, HRN.out, HM0.out, HR0.out, lf2, lf5]); decide
        · have HR0 : Hid (wr.heap[r2]? = some (.mapIter (some bm) 2 #[0] 2)) := Lib.hid hr
          have HLL : Hid ((leftOf #[⟨kAB, .int .i64 2, 0⟩] #[0]).toList = []) := Lib.hid (by kernel_rfl)
          clear hr
          go_wp2_with (first
            | ((with_reducible refine wpl_nxN ?_ ?_ HR0.out HM0.out HOLD.out (Nat.le_refl _) HLL.out ?_); rfl; rfl)
            | fail)
          go_ret2
          exact ⟨bm, rfl, HM0.out, HB0.out⟩
      · have HM0 := Lib.hid hm
        have HR0 := Lib.hid hr
        have HOLD := Lib.hid hold2
        obtain ⟨L, hL⟩ : ∃ L, L = [(⟨kAB, .int .i64 2, 0⟩ : MapEntry)] := ⟨_, rfl⟩
        have HLS : Hid ((leftOf #[⟨kAB, .int .i64 2, 0⟩] #[1]).toList = L ∧ L ≠ []) := Lib.hid (by rw [hL]; exact ⟨by kernel_rfl, List.cons_ne_nil _ _⟩)
        have HL2 := Lib.hid hL
        clear hm hr hL
        go_wp2_with (first
          | ((with_reducible refine wpl_nxS ?_ ?_ HR0.out HM0.out HOLD.out (Nat.le_refl _) (by decide) HLS.out ?_); rfl; rfl)
          | fail)
        intro e he wn hnx
        rw [HL2.out] at he
        obtain rfl : e = ⟨kAB, .int .i64 2, 0⟩ := by simpa using he
        have HBN : Hid (Below w.heap.size w wn) := Lib.hid (hnx.1.behind HB0.out HB0.out.size (fun q hq e => by have := HRM.out.1; omega))
        have HRN : Hid (wn.heap[r]? = some (.mapIter (some bm) 2 #[1, 0] 2)) := Lib.hid hnx.2.1
        have HMN := Lib.hid hnx.2.2.1
        have hen := hnx.2.2.2
        clear he hnx HLS HL2
        unfold kAB at hen ⊢
        simp only at hen ⊢
        obtain ⟨wp, hwp⟩ : ∃ x, x = wn.alloc (.cells #[.string ⟨#[85, 83, 68]⟩, .string ⟨#[97]⟩, .string ⟨#[98]⟩] 86 (0, 0)) := ⟨_, rfl⟩
        obtain ⟨wq, hwq⟩ : ∃ x, x = wp.alloc (.cells #[.string ⟨#[85, 83, 68]⟩, .string ⟨#[98]⟩, .string ⟨#[97]⟩] 86 (0, 0)) := ⟨_, rfl⟩
        have HWP := Lib.hid hwp
        have HWQ := Lib.hid hwq
        have hbp : Below wn.heap.size wn wp := hwp ▸ one_below _ _
        have hbq : Below wp.heap.size wp wq := hwq ▸ one_below _ _
        have HX7 : Hid (wp.heap[wn.heap.size]? = some (.cells #[.string ⟨#[85, 83, 68]⟩, .string ⟨#[97]⟩, .string ⟨#[98]⟩] 86 (0, 0))) := Lib.hid (hwp ▸ heap_alloc_new _ _)
        have HX7q := Lib.hid (blk hbq (lt_blk HX7.out) HX7.out)
        have HX9q : Hid (wq.heap[wp.heap.size]? = some (.cells #[.string ⟨#[85, 83, 68]⟩, .string ⟨#[98]⟩, .string ⟨#[97]⟩] 86 (0, 0))) := Lib.hid (hwq ▸ heap_alloc_new _ _)
        have HBP := Lib.hid (hbp.trans (hbq.mono hbp.size))
        have HMQ := Lib.hid (blk HBP.out (lt_blk HMN.out) HMN.out)
        have HRQ := Lib.hid (blk HBP.out (lt_blk HRN.out) HRN.out)
        have HBQ := Lib.hid (HBN.out.trans (HBP.out.mono HBN.out.size))
        have p0 := cell_blk HX7.out 0
        have p1 := cell_blk HX7.out 1
        have p2 := cell_blk HX7.out 2
        clear hwp hwq hbp hbq
        go_upto_region 12 with (first
          | (refine wpList_store_row (P := Tryz.prog) rfl 86 (.tmp 7) (.tmp 45) rfl wn.heap.size #[.string ⟨#[85, 83, 68]⟩, .string ⟨#[97]⟩, .string ⟨#[98]⟩] rfl rfl _ _ (heap_alloc_new wn _) (by kernel_rfl) rfl (by simp [Value.oneCell']) ?_; rw [setRow_new4, ← HWP.out])
          | fail)
        go_upto_region 13 with (first
          | (refine wpList_store_row (P := Tryz.prog) rfl 86 (.tmp 9) (.tmp 53) rfl wp.heap.size #[.string ⟨#[85, 83, 68]⟩, .string ⟨#[98]⟩, .string ⟨#[97]⟩] rfl rfl _ _ (heap_alloc_new wp _) (by kernel_rfl) rfl (by simp [Value.oneCell']) ?_; rw [setRow_new4, ← HWQ.out])
          | fail)
        clear p0 p1 p2 hen
        have q0 := cell_blk HX9q.out 0
        have q1 := cell_blk HX9q.out 1
        have q2 := cell_blk HX9q.out 2
        have p0 := cell_blk HX7q.out 0
        have p1 := cell_blk HX7q.out 1
        have p2 := cell_blk HX7q.out 2
        have hlk : (Instr.lookup 68 (.map (some bm)) (.agg #[.string ⟨#[85, 83, 68]⟩, .string ⟨#[98]⟩, .string ⟨#[97]⟩]) false).run Tryz.prog wq = .ok (.int .i64 0) wq := lkBA1 HMQ.out
        go_wp2_with (first
          | ((with_reducible refine Any.wpl_min_is (k := .i64) (p := 2) (q := 0) (r := 0) ?_ ?_ ?_ ?_ ?_); rfl; rfl; rfl; rfl)
          | fail)
        go_roundw
        case rel => exact ⟨.inr (.inr (.inr ⟨HMQ.out, HRQ.out⟩)), HBQ.out⟩
        case measure => (simp only [itLeft4, HMQ.out, HRQ.out, HM0.out, HR0.out, lf3, lf4]); decide
      · have HM0 := Lib.hid hm
        have HR0 := Lib.hid hr
        have HOLD := Lib.hid hold2
        have HLL : Hid ((leftOf #[⟨kAB, .int .i64 2, 0⟩] #[1, 0]).toList = []) := Lib.hid (by kernel_rfl)
        clear hm hr
        go_wp2_with (first
          | ((with_reducible refine wpl_nxN ?_ ?_ HR0.out HM0.out HOLD.out (Nat.le_refl _) HLL.out ?_); rfl; rfl)
          | ((with_reducible refine wpl_rgr (b := bm) ?_ ?_ (rg_run HM0.out) ?_); rfl; rfl; go_frame)
          | fail)
        obtain ⟨r2, hr2⟩ : ∃ b, b = wr.heap.size := ⟨_, rfl⟩
        obtain ⟨wt, hwt⟩ : ∃ x, x = wr.alloc (.mapIter (some bm) 2 #[] 2) := ⟨_, rfl⟩
        rw [← hwt, ← hr2]
        have hbt : Below wr.heap.size wr wt := hwt ▸ one_below wr _
        have HRT : Hid (wt.heap[r2]? = some (.mapIter (some bm) 2 #[] 2)) := Lib.hid (by rw [hwt, hr2]; exact heap_alloc_new wr _)
        have HMT := Lib.hid (blk hbt (lt_blk HM0.out) HM0.out)
        have HBT := Lib.hid (HB0.out.trans (hbt.mono HB0.out.size))
        have HRM2 : Hid (w.heap.size ≤ r2) := Lib.hid (by rw [hr2]; exact HB0.out.size)
        clear hwt hbt hr2 HM0 HB0 HR0 HLL
        go_loopw [14] (fun _ wr => ∃ b : Bool, wr.heap[bm]? = some (.map #[⟨kAB, .int .i64 2, 0⟩] 2) ∧ wr.heap[r2]? = some (.mapIter (some bm) 2 (if b then #[0] else #[]) 2) ∧ Below w.heap.size w wr) (fun _ wr => itLeft4 wr r2 bm)
        case atStart => exact ⟨false, HMT.out, HRT.out, HBT.out⟩
        case round =>
        obtain ⟨bb, hm, hr, hbel⟩ := hrel
        have HM0 := Lib.hid hm
        have HB0 := Lib.hid hbel
        clear hm hbel HMT HRT HBT
        cases bb
        · have HR0 : Hid (wr.heap[r2]? = some (.mapIter (some bm) 2 #[] 2)) := Lib.hid hr
          obtain ⟨L, hL⟩ : ∃ L, L = [(⟨kAB, .int .i64 2, 0⟩ : MapEntry)] := ⟨_, rfl⟩
          have HLS : Hid ((leftOf #[⟨kAB, .int .i64 2, 0⟩] #[]).toList = L ∧ L ≠ []) := Lib.hid (by rw [hL]; exact ⟨by kernel_rfl, List.cons_ne_nil _ _⟩)
          have HL2 := Lib.hid hL
          clear hr hL
          go_wp2_with (first
            | ((with_reducible refine wpl_nxS ?_ ?_ HR0.out HM0.out HOLD.out (Nat.le_refl _) (by decide) HLS.out ?_); rfl; rfl)
            | fail)
          intro e he wn hnx
          rw [HL2.out] at he
          obtain rfl : e = ⟨kAB, .int .i64 2, 0⟩ := by simpa using he
          have HBN : Hid (Below w.heap.size w wn) := Lib.hid (hnx.1.behind HB0.out HB0.out.size (fun q hq e => by have := HRM2.out; omega))
          have HRN : Hid (wn.heap[r2]? = some (.mapIter (some bm) 2 #[0] 2)) := Lib.hid hnx.2.1
          have HMN := Lib.hid hnx.2.2.1
          have hen := hnx.2.2.2
          clear he hnx HLS HL2
          unfold kAB at hen ⊢
          simp only at hen ⊢
          go_wp2_with fail
          go_roundw
          case rel => exact ⟨true, HMN.out, HRN.out, HBN.out⟩
          case measure => (simp only [itLeft4, HMN.out, HRN.out, HM0.out, HR0.out, lf2, lf5]); decide
        · have HR0 : Hid (wr.heap[r2]? = some (.mapIter (some bm) 2 #[0] 2)) := Lib.hid hr
          have HLL : Hid ((leftOf #[⟨kAB, .int .i64 2, 0⟩] #[0]).toList = []) := Lib.hid (by kernel_rfl)
          clear hr
          go_wp2_with (first
            | ((with_reducible refine wpl_nxN ?_ ?_ HR0.out HM0.out HOLD.out (Nat.le_refl _) HLL.out ?_); rfl; rfl)
            | fail)
          go_ret2
          exact ⟨bm, rfl, HM0.out, HB0.out⟩
end Go.Proofs.YtbigoifpfkdkjaaGreat.Sc
