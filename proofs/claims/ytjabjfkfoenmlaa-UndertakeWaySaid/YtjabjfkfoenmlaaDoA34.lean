/- Words that Do of the program and of the reference share. -/
import Derived.Test.YtjabjfkfoenmlaaStep34
namespace Go.Proofs.Ytjabjfkfoenmlaa.Sc
open Go Go.RowKit Go.ChangeShapes Go.WideShapes Go.ChangeAt
set_option maxRecDepth 100000

theorem turn_evs (l : Lf) (k : Int) (e : Ev) : (l.turn k e).2.evs = l.evs := by
  unfold Lf.turn Lf.present Lf.refuse Lf.pay Lf.repay Lf.expire
  repeat' split
  all_goals rfl
theorem ev_cells {w : World} {b : Nat} {t : TypeId} {k0 k2 k3 : Int} {k1 : ByteArray} (h : w.heap[b]? = some (.cells #[.int .i64 k0, .string k1, .int .i64 k2, .int .i64 k3] t (0, 0))) :
    w.cell? ⟨b, 0, none⟩ = some (.int .i64 k0) ∧ w.cell? ⟨b, 1, none⟩ = some (.string k1) ∧ w.cell? ⟨b, 2, none⟩ = some (.int .i64 k2) ∧ w.cell? ⟨b, 3, none⟩ = some (.int .i64 k3) := ⟨cell_blk h 0, cell_blk h 1, cell_blk h 2, cell_blk h 3⟩
/-- The event is behind the others. -/
theorem do_end {w w4 w5 w6 : World} {t : TypeId} {F F5 : Nat → Prop} {bk : Nat} {l6 : Lf} {vp v' : Value} (h0 : Keep F w w4) (h1 : Keep F w4 w5) (hF : ∀ k, F5 k → F k ∨ w4.heap.size ≤ k) (h2 : Keep F5 w5 w6)
    (h : Lw w6 t (fun k => F5 k ∨ v'.ownBlock = some k) bk l6 vp v') (hn : ∀ g, v'.ownBlock = some g → F5 g ∨ w5.heap.size ≤ g) :
    AfterL w t F 0 bk l6 (.returned (.int .i64 0)) w6 := by
  have hs := h0.size
  have hs1 := h1.size
  refine ⟨rfl, (h0.trans h1 (fun _ _ h => h)).trans h2 (fun i hi h => (hF i h).elim id (fun h => by omega)), _, ⟨_, _, h⟩, fun k hk => ?_⟩
  rcases hk with hk | hk
  · exact (hF k hk).imp id (fun h => by omega)
  · rcases hn k hk with hk | hk
    · exact (hF k hk).imp id (fun h => by omega)
    · exact .inr (by omega)
/-- .. of the reference: of the life's blocks its box alone has turned. -/
def AfterR (w : World) (t : TypeId) (F : Nat → Prop) (n : Int) (b : Nat) (l : Lf) (e : Ending) (w' : World) : Prop :=
  e = .returned (.int .i64 n) ∧ Keep (fun k => k = b) w w' ∧ ∃ F', Lv w' t F' b l ∧ ∀ k, F' k → F k ∨ w.heap.size ≤ k
theorem afterR_same {w w' : World} {t : TypeId} {F : Nat → Prop} {n m : Int} {b : Nat} {l : Lf} (h : Lv w t F b l) (hb : Below w.heap.size w w') (hn : m = n) : AfterR w t F n b l (.returned (.int .i64 m)) w' := by
  subst hn
  exact ⟨rfl, .of_below hb, F, h.below hb, fun k h => .inl h⟩
theorem AfterR.l {w w' : World} {t : TypeId} {F : Nat → Prop} {n : Int} {b : Nat} {l : Lf} {e : Ending} (h : AfterR w t F n b l e w') (hF : F b) : AfterL w t F n b l e w' := ⟨h.1, h.2.1.mono (fun i _ hi => by subst hi; exact hF), h.2.2⟩
theorem do_endR {w w4 w5 w6 : World} {t : TypeId} {F F5 : Nat → Prop} {bk : Nat} {l6 : Lf} {vp v' : Value} (h0 : Keep (fun k => k = bk) w w4) (h1 : Keep (fun k => k = bk) w4 w5) (hF : ∀ k, F5 k → F k ∨ w4.heap.size ≤ k) (h2 : Keep (fun k => k = bk) w5 w6)
    (h : Lw w6 t (fun k => F5 k ∨ v'.ownBlock = some k) bk l6 vp v') (hn : ∀ g, v'.ownBlock = some g → F5 g ∨ w5.heap.size ≤ g) :
    AfterR w t F 0 bk l6 (.returned (.int .i64 0)) w6 := by
  have hs := h0.size
  have hs1 := h1.size
  refine ⟨rfl, (h0.trans h1 (fun _ _ h => h)).trans h2 (fun _ _ h => h), _, ⟨_, _, h⟩, fun k hk => ?_⟩
  rcases hk with hk | hk
  · exact (hF k hk).imp id (fun h => by omega)
  · rcases hn k hk with hk | hk
    · exact (hF k hk).imp id (fun h => by omega)
    · exact .inr (by omega)
/-- The day of the last event, in memory. -/
theorem last_day {w : World} {B : Nat} {a : Option Addr} {n c : Nat} {L : List Ev} (h : w.ownsRow B 40 4 (.slice a n c) L.length (evCells L)) (h0 : 0 < L.length) :
    ∃ g x, a = some ⟨g, 0, none⟩ ∧ L.getLast? = some x ∧ g < w.heap.size ∧ w.cell? ⟨g, (L.length - 1) * 4 + 2, none⟩ = some (.int .i64 x.day) := by
  obtain ⟨x, hx⟩ : ∃ x, L.getLast? = some x := by cases h1 : L.getLast? with | none => simp at h1; simp [h1] at h0 | some x => exact ⟨x, rfl⟩
  have hs := own_evs h rfl
  obtain ⟨b, off, hq, hn, hlt, hc⟩ := hs.at (i := L.length - 1) (by simp; omega)
  have hget : (L.map Ev.row)[L.length - 1]? = some x.row := by
    rw [List.getLast?_eq_getElem?] at hx
    simp [hx]
  have h2 := hc _ _ hget 2 _ rfl
  rcases h.2 with ⟨h3, h4⟩ | ⟨g, cap, cur, h3, _⟩
  · omega
  · simp only [Value.slice.injEq] at h3
    obtain ⟨rfl, _, _⟩ := h3
    simp only [Option.some.injEq, Addr.mk.injEq] at hq
    obtain ⟨rfl, rfl, _⟩ := hq
    exact ⟨g, x, rfl, hx, hlt, by simpa using h2⟩

theorem turnR_evs (l : Lf) (k : Int) (e : Ev) : (l.turnR k e).2.evs = l.evs := by
  unfold Lf.turnR
  split
  · rfl
  · exact turn_evs l k e
/-- One cell of the box stored into. -/
theorem lw_cell {w : World} {t : TypeId} {F : Nat → Prop} {bk : Nat} {l : Lf} {vp ve : Value} (h : Lw w t F bk l vp ve) (o : Nat) (u : Value) (l' : Lf) (hc : (l.cells vp ve).setIfInBounds o u = l'.cells vp ve) (hp : l'.paid = l.paid) (he : l'.evs = l.evs) (h1 : 62 ≠ t) (h2 : 40 ≠ t) :
    Lw (w.setCell ⟨bk, o, none⟩ u) t F bk l' vp ve := by
  refine lw_turn h ((Keep.of_grown (grown_set w bk o u)).mono (fun i _ hi => (Option.some.inj hi).symm)) ?_ hp he h1 h2
  unfold Box
  rw [← hc]
  exact Box.set_raw h.box o u
theorem keep_cell {w : World} {F : Nat → Prop} {bk : Nat} (h : F bk) (o : Nat) (u : Value) : Keep F w (w.setCell ⟨bk, o, none⟩ u) := (Keep.of_grown (grown_set w bk o u)).mono (fun _ _ hi => (Option.some.inj hi) ▸ h)
theorem src_evs {w W : World} {t : TypeId} {F : Nat → Prop} {bk : Nat} {l : Lf} {vp ve : Value} (h : Lw w t F bk l vp ve) (hk : Keep (fun k => k = bk) w.drew W) (h2 : 40 ≠ t) : Src W 4 ve l.evs.length (evCells l.evs) := by
  have hs := ((own_evs h.evs rfl).keep (Keep.undrew hk) (fun b hb e => row_off h.evs h.box h2 (e ▸ hb))).src (ev_rows l.evs) (by decide)
  rw [List.length_map, ← evCells_flat] at hs
  exact hs
theorem src_paid {w W : World} {t : TypeId} {F : Nat → Prop} {bk : Nat} {l : Lf} {vp ve : Value} (h : Lw w t F bk l vp ve) (hk : Keep (fun k => k = bk) w.drew W) (h1 : 62 ≠ t) : Src W 2 vp l.paid.length (drCells l.paid) := by
  have hs := ((own_draws h.paid rfl).keep (Keep.undrew hk) (fun b hb e => row_off h.paid h.box h1 (e ▸ hb))).src (dr_rows l.paid) (by decide)
  rw [List.length_map, ← drCells_flat] at hs
  exact hs
theorem evs_one (l : List Ev) : ∀ u ∈ evCells l, u.oneCell' = true := by
  intro u hu
  simp only [evCells, List.mem_flatMap] at hu
  obtain ⟨e, _, h⟩ := hu
  exact ev_one e u (by simpa [Ev.cells, Ev.row] using h)
end Go.Proofs.Ytjabjfkfoenmlaa.Sc
