/- What an event does to a life, told once for the program and the reference. Words that Do of the program and of the reference share. -/
import Derived.Test.YtbigoifpfkdkjaaGreatDoorTd13
namespace Go.Proofs.YtbigoifpfkdkjaaGreatDoor.Sc
open Go Go.RowKit Go.ChangeShapes Go.WideShapes Go.ChangeAt
set_option maxRecDepth 100000

/-- A life that New made, and what happened since. -/
structure Lf.fit (l : Lf) : Prop where
  s0 : 0 ≤ l.st
  s7 : l.st ≤ 7
  e1 : l.c.s1.toList.isEmpty = false
  e2 : l.c.s2.toList.isEmpty = false
  e3 : l.c.s3.toList.isEmpty = false
  e4 : l.cf = true → l.c.s4.toList.isEmpty = false

/-- Who is to do a kind, of the program. -/
def Lf.byv (l : Lf) (k : Int) : ByteArray := if k = 0 ∨ k = 7 then l.c.s3 else if k = 1 then l.c.s4 else if k = 2 then l.c.s2 else if k = 6 then l.payer else l.bank
theorem emp_nil : (⟨#[]⟩ : ByteArray).toList.isEmpty = true := by simp
set_option maxHeartbeats 4000000 in
theorem can_by (l : Lf) (hf : l.fit) (k : Int) (h0 : 0 ≤ k) (h7 : k ≤ 7) : l.can k = !(l.who k).toList.isEmpty ∧ (l.can k = true → l.byv k = l.who k) := by
  obtain ⟨s0, s7, e1, e2, e3, e4⟩ := hf
  have hb := bit_st k l.st h0 h7 s0 s7
  unfold Lf.can Lf.mayB Lf.byv Lf.who Lf.payer Lf.debtor Lf.payer Lf.bank
  rw [hb]
  clear hb
  generalize l.c.s1 = n1 at *
  generalize l.c.s2 = n2 at *
  generalize l.c.s3 = n3 at *
  generalize l.c.s4 = n4 at *
  generalize l.cf = cf at *
  generalize l.rp = rp at *
  generalize l.st = st at *
  have E1 : Hid (¬ n1.toList = []) := Lib.hid (by simpa using e1)
  have E3 : Hid (¬ n3.toList = []) := Lib.hid (by simpa using e3)
  rcases eight h0 h7 with rfl | rfl | rfl | rfl | rfl | rfl | rfl | rfl <;> rcases eight s0 s7 with rfl | rfl | rfl | rfl | rfl | rfl | rfl | rfl <;> cases cf <;> simp [e1, e2, e3] at * <;> first | exact e4 | (cases rp <;> simp [E1.out, E3.out]) | skip

/-- What a rule's last closure does. -/
def Lf.turn (l : Lf) (k : Int) (e : Ev) : Int × Lf :=
  if k = 0 then (0, { l with st := 1 }) else if k = 1 then (0, { l with cf := true })
  else if k = 2 then (mayCode l.c l.paid ⟨e.day, e.amt⟩, if mayCode l.c l.paid ⟨e.day, e.amt⟩ = 0 then l.present ⟨e.day, e.amt⟩ else l)
  else if k = 3 then (0, l.refuse) else if k = 4 then (0, { l with st := 4 }) else if k = 5 then (0, l.pay) else if k = 6 then (0, l.repay)
  else (if e.day ≤ l.c.expiry then 3 else 0, if e.day ≤ l.c.expiry then l else l.expire)
def Lf.late (l : Lf) (e : Ev) : Bool := match l.evs.getLast? with | some x => decide (e.day < x.day) | none => false
/-- .. of the reference: a refusal lets the draw stand. -/
def Lf.turnR (l : Lf) (k : Int) (e : Ev) : Int × Lf := if k = 3 then (0, { l with st := 3 }) else l.turn k e
/-- What an event does, given what the last closure does. -/
def Lf.stepW (T : Lf → Int → Ev → Int × Lf) (l : Lf) (e : Ev) : Int × Lf :=
  if e.ok = false then (1, l) else if l.late e = true then (6, l) else if l.can e.kind = false then (9, l) else if e.party ≠ l.byv e.kind then (8, l)
  else if (T l e.kind e).1 = 0 then (0, { (T l e.kind e).2 with evs := (T l e.kind e).2.evs ++ [e] }) else ((T l e.kind e).1, (T l e.kind e).2)
def Lf.step (l : Lf) (e : Ev) : Int × Lf := l.stepW Lf.turn e
def Lf.stepR (l : Lf) (e : Ev) : Int × Lf := l.stepW Lf.turnR e
section
variable {T : Lf → Int → Ev → Int × Lf} {l : Lf} {e : Ev}
theorem stepW_bad (h : e.ok = false) : l.stepW T e = (1, l) := by unfold Lf.stepW; rw [if_pos h]
theorem stepW_late (h : e.ok = true) (h1 : l.late e = true) : l.stepW T e = (6, l) := by unfold Lf.stepW; rw [if_neg (by simp [h]), if_pos h1]
theorem stepW_cant (h : e.ok = true) (h1 : l.late e = false) (h2 : l.can e.kind = false) : l.stepW T e = (9, l) := by unfold Lf.stepW; rw [if_neg (by simp [h]), if_neg (by simp [h1]), if_pos h2]
theorem stepW_other (h : e.ok = true) (h1 : l.late e = false) (h2 : l.can e.kind = true) (h3 : ¬ e.party = l.byv e.kind) : l.stepW T e = (8, l) := by
  unfold Lf.stepW; rw [if_neg (by simp [h]), if_neg (by simp [h1]), if_neg (by simp [h2]), if_pos h3]
theorem stepW_code (h : e.ok = true) (h1 : l.late e = false) (h2 : l.can e.kind = true) (h3 : e.party = l.byv e.kind) (h4 : ¬ (T l e.kind e).1 = 0) : l.stepW T e = ((T l e.kind e).1, (T l e.kind e).2) := by
  unfold Lf.stepW; rw [if_neg (by simp [h]), if_neg (by simp [h1]), if_neg (by simp [h2]), if_neg (by simp [h3]), if_neg h4]
theorem stepW_done (h : e.ok = true) (h1 : l.late e = false) (h2 : l.can e.kind = true) (h3 : e.party = l.byv e.kind) (h4 : (T l e.kind e).1 = 0) : l.stepW T e = (0, { (T l e.kind e).2 with evs := (T l e.kind e).2.evs ++ [e] }) := by
  unfold Lf.stepW; rw [if_neg (by simp [h]), if_neg (by simp [h1]), if_neg (by simp [h2]), if_neg (by simp [h3]), if_pos h4]
end
theorem ev_kind {e : Ev} (h : e.ok = true) : 0 ≤ e.kind ∧ e.kind ≤ 7 := by
  simp only [Ev.ok, Bool.and_eq_true, decide_eq_true_eq] at h
  exact h.1.1.1

theorem by_all (k : Int) (h0 : 0 ≤ k) (h7 : k ≤ 7) (b : Nat) (l : Lf) (vp ve : Value) (w : World) (hb : Box w 116 b l vp ve) : Calls Tryz.prog (byF k) #[.pointer (some ⟨b, 0, none⟩)] w (Ret w (.string (l.byv k))) := by
  rcases eight h0 h7 with rfl | rfl | rfl | rfl | rfl | rfl | rfl | rfl
  · exact issuer_any b l vp ve w hb
  · exact confirmer_any b l vp ve w hb
  · exact beneficiary_any b l vp ve w hb
  · exact answers_any b l vp ve w hb
  · exact answers_any b l vp ve w hb
  · exact answers_any b l vp ve w hb
  · exact payer_any b l vp ve w hb
  · exact issuer_any b l vp ve w hb
theorem by_go (k : Int) (a : Array Value) (w : World) : (callFunc (byF k) a).run Tryz.prog w = .ok (.enter (byF k) a) w := by
  unfold byF
  repeat' split
  all_goals kernel_rfl

def thenF (k : Int) : FuncId := if k = 0 ∨ k = 4 then 160 else if k = 1 then 110 else if k = 2 then 111 else if k = 3 then 112
  else if k = 5 then 113 else if k = 6 then 114 else 115
def thenC (k : Int) (p q : Nat) : Array Value := if k = 0 then #[.pointer (some ⟨p, 0, none⟩)] else if k = 4 then #[.pointer (some ⟨q, 0, none⟩)] else #[]
theorem then_val (k : Int) (h0 : 0 ≤ k) (h7 : k ≤ 7) (p q : Nat) : thenV k p q = .func (.func (thenF k)) #[] (thenC k p q) := by
  rcases eight h0 h7 with rfl | rfl | rfl | rfl | rfl | rfl | rfl | rfl <;> rfl
theorem then_go (k : Int) (a : Array Value) (w : World) : (callFunc (thenF k) a).run Tryz.prog w = .ok (.enter (thenF k) a) w := by
  unfold thenF
  repeat' split
  all_goals kernel_rfl
def RulesAt (w : World) (p q : Nat) : Prop := w.heap[p]? = some (.cells #[.int .i64 1] 3 (0, 0)) ∧ w.heap[q]? = some (.cells #[.int .i64 4] 3 (0, 0))
theorem RulesAt.below {w w' : World} {p q : Nat} (h : RulesAt w p q) (hb : Below w.heap.size w w') : RulesAt w' p q := ⟨blk hb (lt_blk h.1) h.1, blk hb (lt_blk h.2) h.2⟩
theorem then_all (k : Int) (h0 : 0 ≤ k) (h7 : k ≤ 7) (p q bk : Nat) (l : Lf) (F : Nat → Prop) (e : Ev) (w : World) (h : Lv w 116 F bk l) (hr : RulesAt w p q) (hn : l.paid.length ≤ 4000) :
    Calls Tryz.prog (thenF k) (#[.pointer (some ⟨bk, 0, none⟩), .agg e.cells] ++ thenC k p q) w (AfterL w 116 F (l.turn k e).1 bk (l.turn k e).2) := by
  have h2 := h
  obtain ⟨vp, ve, hw⟩ := h2
  rcases eight h0 h7 with rfl | rfl | rfl | rfl | rfl | rfl | rfl | rfl
  · exact (to_any bk l vp ve e 1 p w hw.box (cell_blk hr.1 0) (lt_blk hr.1)).mono fun en w' hd => did_after hw hd rfl rfl
  · exact (confirm_any bk l vp ve e w hw.box).mono fun en w' hd => did_after hw hd rfl rfl
  · exact present_any bk l F e w h
  · exact refuse_any bk l F e w h
  · exact (to_any bk l vp ve e 4 q w hw.box (cell_blk hr.2 0) (lt_blk hr.2)).mono fun en w' hd => did_after hw hd rfl rfl
  · exact pay_any bk l F e w h hn
  · exact (reimburse_any bk l vp ve e w hw.box).mono fun en w' hd => did_after hw hd (by unfold Lf.turn Lf.repay; simp; split <;> rfl) (by unfold Lf.turn Lf.repay; simp; split <;> rfl)
  · exact expire_any bk l F e w h
end Go.Proofs.YtbigoifpfkdkjaaGreatDoor.Sc
namespace Go.Proofs.YtbigoifpfkdkjaaGreatDoor.Sc
open Go Go.RowKit Go.ChangeShapes Go.WideShapes Go.ChangeAt
set_option maxRecDepth 100000

theorem turn_evs (l : Lf) (k : Int) (e : Ev) : (l.turn k e).2.evs = l.evs := by
  unfold Lf.turn Lf.present Lf.refuse Lf.pay Lf.repay Lf.expire
  repeat' split
  all_goals rfl
theorem ev_cells {w : World} {b : Nat} {t : TypeId} {k0 k2 k3 : Int} {k1 : ByteArray} (h : w.heap[b]? = some (.cells #[.int .i64 k0, .string k1, .int .i64 k2, .int .i64 k3] t (0, 0))) :
    w.cell? ⟨b, 0, none⟩ = some (.int .i64 k0) ∧ w.cell? ⟨b, 1, none⟩ = some (.string k1) ∧ w.cell? ⟨b, 2, none⟩ = some (.int .i64 k2) ∧ w.cell? ⟨b, 3, none⟩ = some (.int .i64 k3) := ⟨cell_blk h 0, cell_blk h 1, cell_blk h 2, cell_blk h 3⟩
/-- The event is behind the others. -/
theorem do_end {w w4 w5 w6 : World} {t : TypeId} {F F5 : Nat → Prop} {bk : Nat} {l6 : Lf} {vp v' : Value} (h0 : Keep F w w4) (h1 : Keep F w4 w5) (hF : ∀ k, F5 k → F k ∨ w4.heap.size ≤ k) (h2 : Keep F5 w5 w6)
    (h : LifeW w6 t (fun k => F5 k ∨ v'.ownBlock = some k) bk l6 vp v') (hn : ∀ g, v'.ownBlock = some g → F5 g ∨ w5.heap.size ≤ g) :
    AfterL w t F 0 bk l6 (.returned (.int .i64 0)) w6 := by
  have hs := h0.size
  have hs1 := h1.size
  refine ⟨rfl, (h0.trans h1 (fun _ _ h => h)).trans h2 (fun i hi h => (hF i h).elim id (fun h => by omega)), _, ⟨_, _, h⟩, fun k hk => ?_⟩
  rcases hk with hk | hk
  · exact (hF k hk).imp id (fun h => by omega)
  · rcases hn k hk with hk | hk
    · exact (hF k hk).imp id (fun h => by omega)
    · exact .inr (by omega)
/-- .. of the reference: of the life's blocks its box alone has turned. -/
def AfterR (w : World) (t : TypeId) (F : Nat → Prop) (n : Int) (b : Nat) (l : Lf) (e : Ending) (w' : World) : Prop :=
  e = .returned (.int .i64 n) ∧ Keep (fun k => k = b) w w' ∧ ∃ F', Lv w' t F' b l ∧ ∀ k, F' k → F k ∨ w.heap.size ≤ k
theorem afterR_same {w w' : World} {t : TypeId} {F : Nat → Prop} {n m : Int} {b : Nat} {l : Lf} (h : Lv w t F b l) (hb : Below w.heap.size w w') (hn : m = n) : AfterR w t F n b l (.returned (.int .i64 m)) w' := by
  subst hn
  exact ⟨rfl, .of_below hb, F, h.below hb, fun k h => .inl h⟩
theorem AfterR.l {w w' : World} {t : TypeId} {F : Nat → Prop} {n : Int} {b : Nat} {l : Lf} {e : Ending} (h : AfterR w t F n b l e w') (hF : F b) : AfterL w t F n b l e w' := ⟨h.1, h.2.1.mono (fun i _ hi => by subst hi; exact hF), h.2.2⟩
theorem do_endR {w w4 w5 w6 : World} {t : TypeId} {F F5 : Nat → Prop} {bk : Nat} {l6 : Lf} {vp v' : Value} (h0 : Keep (fun k => k = bk) w w4) (h1 : Keep (fun k => k = bk) w4 w5) (hF : ∀ k, F5 k → F k ∨ w4.heap.size ≤ k) (h2 : Keep (fun k => k = bk) w5 w6)
    (h : LifeW w6 t (fun k => F5 k ∨ v'.ownBlock = some k) bk l6 vp v') (hn : ∀ g, v'.ownBlock = some g → F5 g ∨ w5.heap.size ≤ g) :
    AfterR w t F 0 bk l6 (.returned (.int .i64 0)) w6 := by
  have hs := h0.size
  have hs1 := h1.size
  refine ⟨rfl, (h0.trans h1 (fun _ _ h => h)).trans h2 (fun _ _ h => h), _, ⟨_, _, h⟩, fun k hk => ?_⟩
  rcases hk with hk | hk
  · exact (hF k hk).imp id (fun h => by omega)
  · rcases hn k hk with hk | hk
    · exact (hF k hk).imp id (fun h => by omega)
    · exact .inr (by omega)
/-- The day of the last event, in memory. -/
theorem last_day {w : World} {B : Nat} {a : Option Addr} {n c : Nat} {L : List Ev} (h : w.ownsRow B 39 4 (.slice a n c) L.length (evCells L)) (h0 : 0 < L.length) :
    ∃ g x, a = some ⟨g, 0, none⟩ ∧ L.getLast? = some x ∧ g < w.heap.size ∧ w.cell? ⟨g, (L.length - 1) * 4 + 2, none⟩ = some (.int .i64 x.day) := by
  obtain ⟨x, hx⟩ : ∃ x, L.getLast? = some x := by cases h1 : L.getLast? with | none => simp at h1; simp [h1] at h0 | some x => exact ⟨x, rfl⟩
  have hs := own_evs h rfl
  obtain ⟨b, off, hq, hn, hlt, hc⟩ := hs.at (i := L.length - 1) (by simp; omega)
  have hget : (L.map Ev.row)[L.length - 1]? = some x.row := by
    rw [List.getLast?_eq_getElem?] at hx
    simp [hx]
  have h2 := hc _ _ hget 2 _ rfl
  rcases h.2 with ⟨h3, h4⟩ | ⟨g, cap, cur, h3, _⟩
  · omega
  · simp only [Value.slice.injEq] at h3
    obtain ⟨rfl, _, _⟩ := h3
    simp only [Option.some.injEq, Addr.mk.injEq] at hq
    obtain ⟨rfl, rfl, _⟩ := hq
    exact ⟨g, x, rfl, hx, hlt, by simpa using h2⟩

theorem turnR_evs (l : Lf) (k : Int) (e : Ev) : (l.turnR k e).2.evs = l.evs := by
  unfold Lf.turnR
  split
  · rfl
  · exact turn_evs l k e
/-- One cell of the box stored into. -/
theorem lw_cell {w : World} {t : TypeId} {F : Nat → Prop} {bk : Nat} {l : Lf} {vp ve : Value} (h : LifeW w t F bk l vp ve) (o : Nat) (u : Value) (l' : Lf) (hc : (l.cells vp ve).setIfInBounds o u = l'.cells vp ve) (hp : l'.paid = l.paid) (he : l'.evs = l.evs) (h1 : 42 ≠ t) (h2 : 39 ≠ t) :
    LifeW (w.setCell ⟨bk, o, none⟩ u) t F bk l' vp ve := by
  refine lw_turn h ((Keep.of_grown (grown_set w bk o u)).mono (fun i _ hi => (Option.some.inj hi).symm)) ?_ hp he h1 h2
  unfold Box
  rw [← hc]
  exact Box.set_raw h.box o u
theorem keep_cell {w : World} {F : Nat → Prop} {bk : Nat} (h : F bk) (o : Nat) (u : Value) : Keep F w (w.setCell ⟨bk, o, none⟩ u) := (Keep.of_grown (grown_set w bk o u)).mono (fun _ _ hi => (Option.some.inj hi) ▸ h)
theorem src_evs {w W : World} {t : TypeId} {F : Nat → Prop} {bk : Nat} {l : Lf} {vp ve : Value} (h : LifeW w t F bk l vp ve) (hk : Keep (fun k => k = bk) w.drew W) (h2 : 39 ≠ t) : Src W 4 ve l.evs.length (evCells l.evs) := by
  have hs := ((own_evs h.evs rfl).keep (Keep.undrew hk) (fun b hb e => row_off h.evs h.box h2 (e ▸ hb))).src (ev_rows l.evs) (by decide)
  rw [List.length_map, ← evCells_flat] at hs
  exact hs
theorem src_paid {w W : World} {t : TypeId} {F : Nat → Prop} {bk : Nat} {l : Lf} {vp ve : Value} (h : LifeW w t F bk l vp ve) (hk : Keep (fun k => k = bk) w.drew W) (h1 : 42 ≠ t) : Src W 2 vp l.paid.length (drCells l.paid) := by
  have hs := ((own_draws h.paid rfl).keep (Keep.undrew hk) (fun b hb e => row_off h.paid h.box h1 (e ▸ hb))).src (dr_rows l.paid) (by decide)
  rw [List.length_map, ← drCells_flat] at hs
  exact hs
theorem evs_one (l : List Ev) : ∀ u ∈ evCells l, u.oneCell' = true := by
  intro u hu
  simp only [evCells, List.mem_flatMap] at hu
  obtain ⟨e, _, h⟩ := hu
  exact ev_one e u (by simpa [Ev.cells, Ev.row] using h)
end Go.Proofs.YtbigoifpfkdkjaaGreatDoor.Sc
