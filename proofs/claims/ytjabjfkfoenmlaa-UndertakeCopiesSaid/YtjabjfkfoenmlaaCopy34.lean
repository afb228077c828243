/- Copy of a life; the kinds that may happen next. -/
import Derived.Test.YtjabjfkfoenmlaaClone34
import Derived.Test.YtjabjfkfoenmlaaInv34
namespace Go.Proofs.Ytjabjfkfoenmlaa.Sc
open Go Go.RowKit Go.ChangeShapes Go.WideShapes Go.ChangeAt
set_option maxRecDepth 100000

theorem lf_one (l : Lf) {vp ve : Value} (hp : vp.oneCell' = true) (he : ve.oneCell' = true) : (l.cells vp ve).all (fun x => x.oneCell') = true := by simp [Lf.cells, Value.oneCell'] at *; exact ⟨hp, he⟩
theorem lf_info : (Try.prog.info? 74).map (·.size) = some 25 := by kernel_rfl
def Copied (w : World) (l : Lf) (e : Ending) (w' : World) : Prop := ∃ b, e = .returned (.pointer (some ⟨b, 0, none⟩)) ∧ Below w.heap.size w w' ∧ ∃ F, Lv w' 74 F b l ∧ ∀ k, F k → w.heap.size ≤ k
def zeroLf : Array Value := #[.string ⟨#[]⟩, .string ⟨#[]⟩, .string ⟨#[]⟩, .string ⟨#[]⟩, .string ⟨#[]⟩, .string ⟨#[]⟩, .string ⟨#[]⟩, .string ⟨#[]⟩, .int .i64 0, .int .i64 0, .int .i64 0, .int .i64 0, .int .i64 0, .int .i64 0, .int .i64 0, .bool false, .bool false, .slice none 0 0,
      .int .i64 0, .bool false, .bool false, .int .i64 0, .int .i64 0, .slice none 0 0, .slice none 0 0]
theorem copy_end {w w1 w2 w3 : World} {l : Lf} {vp ve v1 v2 : Value} (hs1 : w1.heap.size = w.heap.size + 1) (hb1 : Below w.heap.size w w1) (hb2 : Below w1.heap.size w1 w2) (hc1 : w1.heap[w.heap.size]? = some (.cells (l.cells vp ve) 74 (0, 0)))
    (ho1 : w2.ownsRow w1.heap.size 62 2 v1 l.paid.length (drCells l.paid)) (hb3 : Below (w2.setCell ⟨w.heap.size, 23, none⟩ v1).heap.size (w2.setCell ⟨w.heap.size, 23, none⟩ v1) w3)
    (ho2 : w3.ownsRow (w2.setCell ⟨w.heap.size, 23, none⟩ v1).heap.size 40 4 v2 l.evs.length (evCells l.evs)) : Copied w l (.returned (.pointer (some ⟨w.heap.size, 0, none⟩))) (w3.setCell ⟨w.heap.size, 24, none⟩ v2) := by
  have hsz : (w2.setCell ⟨w.heap.size, 23, none⟩ v1).heap.size = w2.heap.size := by simp [World.setCell]
  have hs2 := hb2.size
  have hs3 := hb3.size
  rw [hsz] at hs3
  have hc2 := blk hb2 (lt_blk hc1) hc1
  have hc3 : w3.heap[w.heap.size]? = some (.cells ((l.cells vp ve).setIfInBounds 23 v1) 74 (0, 0)) := blk hb3 (by rw [hsz]; exact lt_blk hc2) (Box.set_raw hc2 23 v1)
  have hc4 := Box.set_raw hc3 24 v2
  have o1 : ∀ k, v1.ownBlock = some k → w1.heap.size ≤ k ∧ k < w2.heap.size := ho1.lt
  have o2 : ∀ k, v2.ownBlock = some k → w2.heap.size ≤ k ∧ k < w3.heap.size := by have := ho2.lt; rw [hsz] at this; exact this
  have b1 : Below w.heap.size w w2 := hb1.trans (hb2.mono hb1.size)
  have b2 : Below w.heap.size w (w2.setCell ⟨w.heap.size, 23, none⟩ v1) := b1.setCell (Nat.le_refl _) _
  have b3 : Below w.heap.size w w3 := b2.trans (hb3.mono b2.size)
  have b4 : Below w.heap.size w (w3.setCell ⟨w.heap.size, 24, none⟩ v2) := b3.setCell (Nat.le_refl _) _
  refine ⟨w.heap.size, rfl, b4, fun k => k = w.heap.size ∨ v1.ownBlock = some k ∨ v2.ownBlock = some k, ⟨v1, v2, hc4, ?_, ?_, fun g hg => .inr (.inl hg), fun g hg => .inr (.inr hg), .inl rfl, ?_⟩, ?_⟩
  · have q1 := ownsRow_keep ho1 (keep_cell (F := fun k => k = w.heap.size) rfl 23 v1) (fun b hb e => by have := o1 b hb; omega)
    have q2 := ownsRow_below q1 hb3
    have q3 := ownsRow_keep q2 (keep_cell (F := fun k => k = w.heap.size) rfl 24 v2) (fun b hb e => by have := o1 b hb; omega)
    exact ownsRow_base q3 (Nat.zero_le _)
  · have q3 := ownsRow_keep ho2 (keep_cell (F := fun k => k = w.heap.size) rfl 24 v2) (fun b hb e => by have := o2 b hb; omega)
    exact ownsRow_base q3 (Nat.zero_le _)
  · have hsz4 : (w3.setCell ⟨w.heap.size, 24, none⟩ v2).heap.size = w3.heap.size := by simp [World.setCell]
    rw [hsz4]
    rintro k (rfl | hk | hk)
    · omega
    · have := o1 k hk; omega
    · exact (o2 k hk).2
  · rintro k (rfl | hk | hk)
    · exact Nat.le_refl _
    · have := o1 k hk; omega
    · have := o2 k hk; omega

set_option maxHeartbeats 2000000 in
theorem copy_any (bk : Nat) (l : Lf) (F : Nat → Prop) (w : World) (h : Lv w 74 F bk l) (hn : l.evs.length ≤ 4000) (hnp : l.paid.length ≤ 4000) :
    Calls Try.prog 27 #[.pointer (some ⟨bk, 0, none⟩)] w (Copied w l) := by
  obtain ⟨vp, ve, hw⟩ := h
  obtain ⟨pa, pc, hvp⟩ := ownsRow_shape hw.paid
  obtain ⟨ea, ec, hve⟩ := ownsRow_shape hw.evs
  have HONE := Lib.hid (lf_one l (vp := vp) (ve := ve) (by rw [hvp]; rfl) (by rw [hve]; rfl))
  clear hvp hve
  have HBX : Hid (w.heap[bk]? = some (.cells (l.cells vp ve) 74 (0, 0))) := Lib.hid hw.box
  have HZ : Hid ((w.alloc (.cells zeroLf 74)).heap[w.heap.size]? = some (.cells zeroLf 74 (0, 0))) := Lib.hid (heap_alloc_new _ _)
  obtain ⟨w1, hw1⟩ : ∃ x, x = w.alloc (.cells (l.cells vp ve) 74) := ⟨_, rfl⟩
  have HB1 : Hid (Below w.heap.size w w1) := Lib.hid (hw1 ▸ one_below _ _)
  have HC1 : Hid (w1.heap[w.heap.size]? = some (.cells (l.cells vp ve) 74 (0, 0))) := Lib.hid (hw1 ▸ heap_alloc_new _ _)
  have HL1 := Lib.hid (hw.below HB1.out)
  have hne : ¬ bk = w.heap.size := by have := lt_blk hw.box; omega
  have HNE := Lib.hid hne
  have CP := Lib.hid (cloneDr_any l.paid vp w1 (own_draws HL1.out.paid rfl) (by omega))
  have CE := Lib.hid (fun W (h : Sl W 4 ve (l.evs.map Ev.row)) => cloneEv_any l.evs ve W h (by omega))
  have HEB : Hid (∀ b, ve.ownBlock = some b → ¬ b = w.heap.size) := Lib.hid (fun b hb e => by have := (hw.evs.lt b hb).2; omega)
  have HSZ1 : Hid (w1.heap.size = w.heap.size + 1) := Lib.hid (by rw [hw1]; simp)
  have HW1 := Lib.hid hw1
  clear hw hn hnp hne hw1
  go_enter Try.func27, Try.ntmps27
  go_wp2_with (first
    | (refine wpList_load_row (P := Try.prog) rfl 74 (.tmp 5) rfl bk rfl _ _ _ _ HBX.out Try.underlying74 rfl (by rw [lf_info]; rfl) ?_)
    | (refine wpList_store_row (P := Try.prog) rfl 74 (.tmp 3) (.tmp 6) rfl w.heap.size (l.cells vp ve) rfl rfl _ zeroLf HZ.out (by rw [lf_info]; rfl) rfl HONE.out ?_; rw [setRow_new, ← HW1.out]; have d23 : w1.cell? ⟨bk, 23, none⟩ = some vp := HL1.out.box.cell 23)
    | ((with_reducible refine CP.out.mono ?_); rintro e w2 ⟨v1, rfl, hown1, hb2⟩; obtain ⟨ga, gc, rfl⟩ := ownsRow_shape hown1; have HB2 := Lib.hid hb2; have HO1 := Lib.hid hown1; clear hb2 hown1 d23; have c23 : w2.cell? ⟨w.heap.size, 23, none⟩ = some vp := cell_blk (blk HB2.out (lt_blk HC1.out) HC1.out) 23; have f23 : w2.frozen? ⟨w.heap.size, 23, none⟩ = false := free_blk (blk HB2.out (lt_blk HC1.out) HC1.out) 23; have d24 : w2.cell? ⟨bk, 24, none⟩ = some ve := (HL1.out.below HB2.out).box.cell 24; have HS2 : Hid (Sl (w2.setCell ⟨w.heap.size, 23, none⟩ (.slice ga l.paid.length gc)) 4 ve (l.evs.map Ev.row)) := Lib.hid ((own_evs (HL1.out.below HB2.out).evs rfl).keep (keep_cell (F := fun k => k = w.heap.size) rfl 23 _) (fun b hb e => HEB.out b hb e)))
    | ((with_reducible refine (CE.out _ HS2.out).mono ?_); rintro e w3 ⟨v2, rfl, hown2, hb3⟩; obtain ⟨ha, hc, rfl⟩ := ownsRow_shape hown2; have HB3 := Lib.hid hb3; have HO2 := Lib.hid hown2; clear hb3 hown2 c23 f23 d24; have HC3 := Lib.hid (blk HB3.out (by simp only [World.setCell, Array.size_modify]; exact lt_blk (blk HB2.out (lt_blk HC1.out) HC1.out)) (Box.set_raw (blk HB2.out (lt_blk HC1.out) HC1.out) 23 (.slice ga l.paid.length gc))); have c24 : w3.cell? ⟨w.heap.size, 24, none⟩ = some ve := cell_blk HC3.out 24; have f24 : w3.frozen? ⟨w.heap.size, 24, none⟩ = false := free_blk HC3.out 24)
    | fail)
  go_ret
  exact copy_end HSZ1.out HB1.out HB2.out HC1.out HO1.out HB3.out HO2.out
end Go.Proofs.Ytjabjfkfoenmlaa.Sc
