/- A life in memory: its box, what was paid and what happened in rows of its own. -/
import Derived.Test.YtjabjfkfoenmlaaThen34
import Derived.Test.YtjabjfkfoenmlaaGrow
namespace Go.Proofs.Ytjabjfkfoenmlaa.Sc
open Go Go.RowKit Go.ChangeShapes Go.WideShapes Go.ChangeAt
set_option maxRecDepth 100000

theorem infoEv : (Try.prog.info? 40).map (fun i => (i.zero, i.size, i.bytes)) = some (some (.agg #[.int .i64 0, .string ⟨#[]⟩, .int .i64 0, .int .i64 0]), 4, 40) := by kernel_rfl
/-- The cells of events. -/
def evCells (l : List Ev) : List Value := l.flatMap Ev.row
theorem evCells_flat (l : List Ev) : evCells l = (l.map Ev.row).flatten := by simp [evCells, List.flatMap]
theorem evCells_append (a b : List Ev) : evCells (a ++ b) = evCells a ++ evCells b := by simp [evCells]
theorem ev_rows (l : List Ev) : ∀ r ∈ l.map Ev.row, r.length = 4 := by intro r hr; obtain ⟨d, _, rfl⟩ := List.mem_map.1 hr; rfl
theorem ev_one (e : Ev) : ∀ u ∈ e.cells.toList, u.oneCell' = true := by
  intro u hu
  simp only [Ev.cells, List.mem_cons, List.not_mem_nil, or_false] at hu
  rcases hu with rfl | rfl | rfl | rfl <;> rfl
theorem own_evs {w : World} {B n : Nat} {v : Value} {l : List Ev} (h : w.ownsRow B 40 4 v n (evCells l)) (hn : n = l.length) : Sl w 4 v (l.map Ev.row) := by
  rw [evCells_flat] at h
  exact own_sl h (by rw [List.length_map]; exact hn) (ev_rows l)
theorem ownsRow_shape {w : World} {B n sz : Nat} {e : TypeId} {v : Value} {xs : List Value} (h : w.ownsRow B e sz v n xs) : ∃ a c, v = .slice a n c := by
  rcases h.2 with ⟨rfl, rfl⟩ | ⟨g, cap, cur, rfl, _⟩
  · exact ⟨_, _, rfl⟩
  · exact ⟨_, _, rfl⟩
/-- A row lies in no block of another type. -/
theorem row_off {w : World} {B n sz b : Nat} {e T : TypeId} {v : Value} {xs : List Value} {cs : Array Value} {fr : Nat × Nat} (h : w.ownsRow B e sz v n xs) (hb : w.heap[b]? = some (.cells cs T fr)) (hne : e ≠ T) : v.ownBlock ≠ some b := by
  intro hv
  rcases h.2 with ⟨rfl, _⟩ | ⟨g, cap, cur, rfl, _, hh, _⟩
  · cases hv
  · obtain rfl : g = b := Option.some.inj hv
    rw [hb] at hh
    simp only [Option.some.injEq, Obj.cells.injEq] at hh
    exact hne hh.2.1.symm
theorem rows_off {w : World} {B B' n n' sz sz' : Nat} {e e' : TypeId} {v v' : Value} {xs xs' : List Value} (h : w.ownsRow B e sz v n xs) (h' : w.ownsRow B' e' sz' v' n' xs') (hne : e ≠ e') : ∀ b, v.ownBlock = some b → v'.ownBlock ≠ some b := by
  intro b hv
  rcases h.2 with ⟨rfl, _⟩ | ⟨g, cap, cur, rfl, _, hh, _⟩
  · cases hv
  · obtain rfl : g = b := Option.some.inj hv
    exact row_off h' hh hne.symm

/-- Box b is the life l; its rows are vp and ve; its blocks lie in F. -/
structure Lw (w : World) (t : TypeId) (F : Nat → Prop) (b : Nat) (l : Lf) (vp ve : Value) : Prop where
  box : Box w t b l vp ve
  paid : w.ownsRow 0 62 2 vp l.paid.length (drCells l.paid)
  evs : w.ownsRow 0 40 4 ve l.evs.length (evCells l.evs)
  fp : ∀ g, vp.ownBlock = some g → F g
  fe : ∀ g, ve.ownBlock = some g → F g
  own : F b
  lt : ∀ k, F k → k < w.heap.size
def Lv (w : World) (t : TypeId) (F : Nat → Prop) (b : Nat) (l : Lf) : Prop := ∃ vp ve, Lw w t F b l vp ve

theorem Lw.keep {w w' : World} {t : TypeId} {F G : Nat → Prop} {b : Nat} {l : Lf} {vp ve : Value} (h : Lw w t F b l vp ve) (k : Keep G w w') (hG : ∀ b, F b → ¬ G b) : Lw w' t F b l vp ve :=
  ⟨k.blk h.box (hG _ h.own), ownsRow_keep h.paid k (fun g hg => hG _ (h.fp g hg)), ownsRow_keep h.evs k (fun g hg => hG _ (h.fe g hg)), h.fp, h.fe, h.own, fun i hi => Nat.lt_of_lt_of_le (h.lt i hi) k.size⟩
theorem Lw.below {w w' : World} {t : TypeId} {F : Nat → Prop} {b : Nat} {l : Lf} {vp ve : Value} (h : Lw w t F b l vp ve) (k : Below w.heap.size w w') : Lw w' t F b l vp ve := h.keep (Keep.of_below (F := fun _ => False) k) (fun _ _ h => h)
theorem Lv.keep {w w' : World} {t : TypeId} {F G : Nat → Prop} {b : Nat} {l : Lf} (h : Lv w t F b l) (k : Keep G w w') (hG : ∀ b, F b → ¬ G b) : Lv w' t F b l := by
  obtain ⟨vp, ve, h⟩ := h
  exact ⟨vp, ve, h.keep k hG⟩
theorem Lv.below {w w' : World} {t : TypeId} {F : Nat → Prop} {b : Nat} {l : Lf} (h : Lv w t F b l) (k : Below w.heap.size w w') : Lv w' t F b l := h.keep (Keep.of_below (F := fun _ => False) k) (fun _ _ h => h)
theorem Lv.lt {w : World} {t : TypeId} {F : Nat → Prop} {b : Nat} {l : Lf} (h : Lv w t F b l) : ∀ k, F k → k < w.heap.size := by
  obtain ⟨_, _, h⟩ := h
  exact h.lt
theorem Lv.stands {w0 w w' : World} {t : TypeId} {F G : Nat → Prop} {b : Nat} {l : Lf} (h : Lv w t F b l) (h1 : Keep G w0 w) (h2 : Keep G w0 w') (hs : w.heap.size ≤ w'.heap.size) (hk : ∀ b, F b → w'.heap[b]? = w.heap[b]?) : Lv w' t F b l :=
  h.keep (G := fun b => ¬ F b) ⟨h2.os.trans h1.os.symm, h2.tape.trans h1.tape.symm, h2.output.trans h1.output.symm, hs, fun k _ hn => hk k (Classical.not_not.1 hn)⟩ (fun _ hb hn => hn hb)

/-- Behind a call that turns a life: its answer; the life as it stands now. -/
def AfterL (w : World) (t : TypeId) (F : Nat → Prop) (n : Int) (b : Nat) (l : Lf) (e : Ending) (w' : World) : Prop :=
  e = .returned (.int .i64 n) ∧ Keep F w w' ∧ ∃ F', Lv w' t F' b l ∧ ∀ k, F' k → F k ∨ w.heap.size ≤ k
theorem afterL_same {w w' : World} {t : TypeId} {F : Nat → Prop} {n m : Int} {b : Nat} {l : Lf} (h : Lv w t F b l) (hb : Below w.heap.size w w') (hn : m = n) : AfterL w t F n b l (.returned (.int .i64 m)) w' := by
  subst hn
  exact ⟨rfl, .of_below hb, F, h.below hb, fun k h => .inl h⟩
/-- What turned the box alone. -/
theorem lw_turn {w w' : World} {t : TypeId} {F : Nat → Prop} {b : Nat} {l l' : Lf} {vp ve : Value} (h : Lw w t F b l vp ve) (k : Keep (fun x => x = b) w w') (hb : Box w' t b l' vp ve) (hp : l'.paid = l.paid) (he : l'.evs = l.evs) (h1 : 62 ≠ t) (h2 : 40 ≠ t) : Lw w' t F b l' vp ve :=
  ⟨hb, by rw [hp]; exact ownsRow_keep h.paid k (fun g hg e => row_off h.paid h.box h1 (e ▸ hg)), by rw [he]; exact ownsRow_keep h.evs k (fun g hg e => row_off h.evs h.box h2 (e ▸ hg)), h.fp, h.fe, h.own, fun i hi => Nat.lt_of_lt_of_le (h.lt i hi) k.size⟩
theorem did_after {w w' : World} {F : Nat → Prop} {b : Nat} {l l' : Lf} {vp ve : Value} {c : Int} {e : Ending} (h : Lw w 74 F b l vp ve) (hd : Did w b c l' vp ve e w') (hp : l'.paid = l.paid) (he : l'.evs = l.evs) :
    AfterL w 74 F c b l' e w' := by
  obtain ⟨h1, h2, h3⟩ := hd
  exact ⟨h1, h2.mono (fun i _ hi => by subst hi; exact h.own), F, ⟨vp, ve, lw_turn h h2 h3 hp he (by decide) (by decide)⟩, fun k hk => .inl hk⟩
end Go.Proofs.Ytjabjfkfoenmlaa.Sc
