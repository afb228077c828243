/- asks: a deal's credit asks for its papers. TopDraw, plainly: the life of the law's credit, draw by draw. A life that turns beside blocks that stay. -/
import Derived.Test.YtbigoifpfkdkjaaGreatDoorTd45
import Derived.Test.YtbigoifpfkdkjaaGreatDoorTd17
import Derived.Test.YtbigoifpfkdkjaaGreatDoorTd06
namespace Go.Proofs.YtbigoifpfkdkjaaGreatDoor.Sc
open Go Go.RowKit Go.ChangeShapes Go.WideShapes Go.ChangeAt
set_option maxRecDepth 100000

set_option maxHeartbeats 2000000 in
theorem asks_any (w : World) (ht : TabW w) : Calls Tryz.prog 6 #[] w (RetB w true) := by
  have HW := Lib.hid (wanted_any w ht)
  unfold dealC at HW
  clear ht
  go_enter Tryz.func6, Tryz.ntmps6
  go_upto_region 2 with (first
    | ((with_reducible refine HW.out.mono ?_); rintro e w2 ⟨a, c, rfl, hb2⟩; have HB2 := Lib.hid hb2; clear hb2)
    | ((with_reducible refine new_cr 1 (.tmp 4) ({ crW with na := a, nl := 4, nc := c } : Cr) ?_ ?_ ?_); rfl; rfl)
    | fail)
  have HX := Lib.hid (heap_alloc_new w2 (.cells ({ crW with na := a, nl := 4, nc := c } : Cr).cells 30))
  have HB := Lib.hid (HB2.out.trans ((one_below w2 (.cells ({ crW with na := a, nl := 4, nc := c } : Cr).cells 30)).mono HB2.out.size))
  generalize w2.alloc (.cells ({ crW with na := a, nl := 4, nc := c } : Cr).cells 30) = w3 at *
  have d0 : w3.cell? ⟨w2.heap.size, 0, none⟩ = some (.string ⟨#[100]⟩) := cell_blk HX.out 0
  have d2 : w3.cell? ⟨w2.heap.size, 2, none⟩ = some (.string ⟨#[115]⟩) := cell_blk HX.out 2
  have d17 : w3.cell? ⟨w2.heap.size, 17, none⟩ = some (.slice a 4 c) := cell_blk HX.out 17
  have d8 : w3.cell? ⟨w2.heap.size, 8, none⟩ = some (.int .i64 5) := cell_blk HX.out 8
  go_wp2_with fail
  go_ret
  exact retB rfl HB.out
end Go.Proofs.YtbigoifpfkdkjaaGreatDoor.Sc
namespace Go.Proofs.YtbigoifpfkdkjaaGreatDoor.Sc
open Go Go.RowKit
set_option maxRecDepth 100000

def kB : ByteArray := ⟨#[107]⟩
def yB : ByteArray := ⟨#[121]⟩
def sB : ByteArray := ⟨#[115]⟩
/-- The law's credit. -/
def crD (sum above below : Int) (part : Bool) : Cr := ⟨⟨#[99]⟩, ⟨#[121]⟩, ⟨#[115]⟩, ⟨#[107]⟩, ⟨#[]⟩, ⟨#[]⟩, ⟨#[]⟩, ⟨#[85, 83, 68]⟩, sum, above, below, 0, 100, 0, 0, part, false, none, 0, 0⟩
theorem crD_bnd {sum a b : Int} {p : Bool} (h1 : 1 ≤ sum) (h2 : sum ≤ 4294967296) (h3 : 0 ≤ a) (h4 : a ≤ 1000) (h5 : 0 ≤ b) (h6 : b ≤ 1000) : (crD sum a b p).bnd = true := by
  exact (bnd_iff _).2 ⟨h1, (show sum ≤ 1099511627776 by omega), h3, h4, h5, h6, (show (0 : Int) ≤ 100 by decide), (show (100 : Int) ≤ 1048576 by decide)⟩
theorem crD_lives {sum a b : Int} {p : Bool} (h : (crD sum a b p).bnd = true) : (crD sum a b p).lives = true := by
  have e : (crD sum a b p).lives = ((crD sum a b p).bnd && ((nameOk kB && (nameOk yB && nameOk sB)) && ((!decide (yB = kB) && (!decide (sB = kB) && !decide (sB = yB))) && ((⟨#[]⟩ : ByteArray).toList.isEmpty || (nameOk ⟨#[]⟩ && (!decide ((⟨#[]⟩ : ByteArray) = kB) && (!decide ((⟨#[]⟩ : ByteArray) = yB) && !decide ((⟨#[]⟩ : ByteArray) = sB)))))))) := rfl
  rw [e, h]
  decide +kernel
theorem crD_bare (sum a b : Int) (p : Bool) : (crD sum a b p).bare = crD sum a b p := rfl
/-- How a life stands. -/
structure DL (c : Cr) (l : Lf) (st : Int) (now : Dr) (paid : List Dr) (k : Int) (n : Nat) : Prop where
  c : l.c = c
  st : l.st = st
  cf : l.cf = false
  rp : l.rp = false
  now : l.now = now
  paid : l.paid = paid
  ev : ∀ x, l.evs.getLast? = some x → x.day ≤ k
  n : l.evs.length ≤ n
theorem DL.late {c : Cr} {l : Lf} {st : Int} {now : Dr} {paid : List Dr} {k : Int} {n : Nat} (h : DL c l st now paid k n) {e : Ev} (he : k ≤ e.day) : l.late e = false := by
  unfold Lf.late
  cases hx : l.evs.getLast? with
  | none => rfl
  | some x => exact decide_eq_false (by have := h.ev x hx; omega)
theorem last_snoc (l : List Ev) (e : Ev) {k : Int} (h : e.day ≤ k) : ∀ x, (l ++ [e]).getLast? = some x → x.day ≤ k := fun x hx => by
  rw [List.getLast?_append] at hx
  simp at hx
  subst hx
  exact h
theorem names_ok : nameOk kB = true ∧ nameOk yB = true ∧ nameOk sB = true := by decide +kernel
theorem DL.can {c : Cr} {l : Lf} {st : Int} {now : Dr} {paid : List Dr} {k : Int} {n : Nat} (h : DL c l st now paid k n) {j : Int} (hj : bitB j st = true) (h1 : j ≠ 1) : l.can j = true := by
  unfold Lf.can Lf.mayB
  rw [h.st, hj, if_neg h1]
  rfl
theorem new_dl (sum a b : Int) (p : Bool) : DL (crD sum a b p) (Lf.new (crD sum a b p)) 0 ⟨0, 0⟩ [] 0 0 := ⟨rfl, rfl, rfl, rfl, rfl, rfl, fun _ h => (by cases h), Nat.le_refl _⟩
theorem step_adv {sum a b : Int} {p : Bool} {l : Lf} (h : DL (crD sum a b p) l 0 ⟨0, 0⟩ [] 0 0) : (l.step ⟨0, kB, 0, 0⟩).1 = 0 ∧ DL (crD sum a b p) (l.step ⟨0, kB, 0, 0⟩).2 1 ⟨0, 0⟩ [] 0 1 := by
  have hs : l.step ⟨0, kB, 0, 0⟩ = (0, { l with st := 1, evs := l.evs ++ [⟨0, kB, 0, 0⟩] }) := by
    refine stepW_done (by decide +kernel) (h.late (Int.le_refl _)) (h.can (by decide +kernel) (by decide)) ?_ rfl
    show kB = l.c.s3
    rw [h.c]; rfl
  rw [hs]
  exact ⟨rfl, h.c, rfl, h.cf, h.rp, h.now, h.paid, last_snoc _ _ (Int.le_refl _), by show (l.evs ++ [_]).length ≤ 1; have := h.n; rw [List.length_append]; show l.evs.length + 1 ≤ 1; omega⟩
theorem step_pres {sum a b : Int} {p : Bool} {l : Lf} {st : Int} {now : Dr} {paid : List Dr} {k k' x : Int} {n : Nat} (h : DL (crD sum a b p) l st now paid k n) (hst : st = 1 ∨ st = 6) (hk : k ≤ k') (h0 : 0 ≤ k') (h1 : k' ≤ 1048576) (hx0 : 1 ≤ x) (hx1 : x ≤ 1099511627776) :
    (l.step ⟨2, sB, k', x⟩).1 = mayCode (crD sum a b p) paid ⟨k', x⟩ ∧ (mayCode (crD sum a b p) paid ⟨k', x⟩ ≠ 0 → (l.step ⟨2, sB, k', x⟩).2 = l) ∧ (mayCode (crD sum a b p) paid ⟨k', x⟩ = 0 → DL (crD sum a b p) (l.step ⟨2, sB, k', x⟩).2 2 ⟨k', x⟩ paid k' (n + 1)) := by
  have hok : Ev.ok ⟨2, sB, k', x⟩ = true := by
    simp only [Ev.ok, names_ok.2.2, Bool.and_eq_true, decide_eq_true_eq, if_true]
    simp; omega
  have hcan : l.can 2 = true := h.can (by rcases hst with rfl | rfl <;> decide +kernel) (by decide)
  have hby : sB = l.byv 2 := by
    show sB = l.c.s2
    rw [h.c]; rfl
  have ht : l.turn 2 ⟨2, sB, k', x⟩ = (mayCode (crD sum a b p) paid ⟨k', x⟩, if mayCode (crD sum a b p) paid ⟨k', x⟩ = 0 then l.present ⟨k', x⟩ else l) := by
    show (mayCode l.c l.paid ⟨k', x⟩, if mayCode l.c l.paid ⟨k', x⟩ = 0 then l.present ⟨k', x⟩ else l) = _
    rw [h.c, h.paid]
  by_cases hm : mayCode (crD sum a b p) paid ⟨k', x⟩ = 0
  · have hs : l.step ⟨2, sB, k', x⟩ = (0, { (l.present ⟨k', x⟩) with evs := (l.present ⟨k', x⟩).evs ++ [⟨2, sB, k', x⟩] }) := by
      have := stepW_done (T := Lf.turn) (l := l) (e := ⟨2, sB, k', x⟩) hok (h.late hk) hcan hby (by rw [ht]; exact hm)
      rw [ht, if_pos hm] at this
      exact this
    rw [hs]
    exact ⟨hm.symm, fun h2 => absurd hm h2, fun _ => ⟨h.c, rfl, h.cf, h.rp, rfl, h.paid, last_snoc _ _ (Int.le_refl _), by show (l.evs ++ [_]).length ≤ n + 1; have := h.n; rw [List.length_append]; show l.evs.length + 1 ≤ n + 1; omega⟩⟩
  · have hs : l.step ⟨2, sB, k', x⟩ = (mayCode (crD sum a b p) paid ⟨k', x⟩, l) := by
      have := stepW_code (T := Lf.turn) (l := l) (e := ⟨2, sB, k', x⟩) hok (h.late hk) hcan hby (by rw [ht]; exact hm)
      rw [ht, if_neg hm] at this
      exact this
    rw [hs]
    exact ⟨rfl, fun _ => rfl, fun h2 => absurd h2 hm⟩
theorem day_ok {j : Int} {p : ByteArray} {k : Int} (hj : 0 ≤ j ∧ j ≤ 7 ∧ j ≠ 2) (hp : nameOk p = true) (h0 : 0 ≤ k) (h1 : k ≤ 1048576) : Ev.ok ⟨j, p, k, 0⟩ = true := by
  simp only [Ev.ok, hp, Bool.and_eq_true, decide_eq_true_eq, if_neg hj.2.2]
  simp; omega
theorem step_hon {sum a b : Int} {p : Bool} {l : Lf} {d : Dr} {paid : List Dr} {k : Int} {n : Nat} (h : DL (crD sum a b p) l 2 d paid k n) (h0 : 0 ≤ k) (h1 : k ≤ 1048576) :
    (l.step ⟨4, kB, k, 0⟩).1 = 0 ∧ DL (crD sum a b p) (l.step ⟨4, kB, k, 0⟩).2 4 d paid k (n + 1) := by
  have hs : l.step ⟨4, kB, k, 0⟩ = (0, { l with st := 4, evs := l.evs ++ [⟨4, kB, k, 0⟩] }) := by
    refine stepW_done (day_ok (j := 4) (by decide) names_ok.1 h0 h1) (h.late (Int.le_refl _)) (show l.can 4 = true from h.can (by decide +kernel) (by decide)) ?_ rfl
    show kB = if l.cf then l.c.s4 else l.c.s3
    rw [h.cf, h.c]; rfl
  rw [hs]
  exact ⟨rfl, h.c, rfl, h.cf, h.rp, h.now, h.paid, last_snoc _ _ (Int.le_refl _), by show (l.evs ++ [_]).length ≤ n + 1; have := h.n; rw [List.length_append]; show l.evs.length + 1 ≤ n + 1; omega⟩
theorem step_pay {sum a b : Int} {p : Bool} {l : Lf} {d : Dr} {paid : List Dr} {k : Int} {n : Nat} (h : DL (crD sum a b p) l 4 d paid k n) (h0 : 0 ≤ k) (h1 : k ≤ 1048576) :
    (l.step ⟨5, kB, k, 0⟩).1 = 0 ∧ DL (crD sum a b p) (l.step ⟨5, kB, k, 0⟩).2 5 d (paid ++ [d]) k (n + 1) := by
  have hs : l.step ⟨5, kB, k, 0⟩ = (0, { l.pay with evs := l.pay.evs ++ [⟨5, kB, k, 0⟩] }) := by
    refine stepW_done (day_ok (j := 5) (by decide) names_ok.1 h0 h1) (h.late (Int.le_refl _)) (show l.can 5 = true from h.can (by decide +kernel) (by decide)) ?_ rfl
    show kB = if l.cf then l.c.s4 else l.c.s3
    rw [h.cf, h.c]; rfl
  rw [hs]
  exact ⟨rfl, h.c, rfl, h.cf, rfl, h.now, by show l.paid ++ [l.now] = _; rw [h.paid, h.now], last_snoc _ _ (Int.le_refl _), by show (l.evs ++ [_]).length ≤ n + 1; have := h.n; rw [List.length_append]; show l.evs.length + 1 ≤ n + 1; omega⟩
theorem step_reim {sum a b : Int} {p : Bool} {l : Lf} {d : Dr} {paid : List Dr} {k : Int} {n : Nat} (h : DL (crD sum a b p) l 5 d paid k n) (h0 : 0 ≤ k) (h1 : k ≤ 1048576) :
    (l.step ⟨6, yB, k, 0⟩).1 = 0 ∧ DL (crD sum a b p) (l.step ⟨6, yB, k, 0⟩).2 6 d paid k (n + 1) := by
  have hr : l.repay = { l with st := 6 } := by unfold Lf.repay; rw [h.cf]; rfl
  have hs : l.step ⟨6, yB, k, 0⟩ = (0, { l with st := 6, evs := l.evs ++ [⟨6, yB, k, 0⟩] }) := by
    have ht : l.turn 6 ⟨6, yB, k, 0⟩ = (0, { l with st := 6 }) := by show (0, l.repay) = _; rw [hr]
    have := stepW_done (T := Lf.turn) (l := l) (e := ⟨6, yB, k, 0⟩) (day_ok (j := 6) (by decide) names_ok.2.1 h0 h1) (h.late (Int.le_refl _)) (show l.can 6 = true from h.can (by decide +kernel) (by decide)) (by
      show yB = if l.cf && !l.rp then l.c.s3 else l.c.s1
      rw [h.cf, h.c]; rfl) (by rw [ht])
    rw [ht] at this
    exact this
  rw [hs]
  exact ⟨rfl, h.c, rfl, h.cf, h.rp, h.now, h.paid, last_snoc _ _ (Int.le_refl _), by show (l.evs ++ [_]).length ≤ n + 1; have := h.n; rw [List.length_append]; show l.evs.length + 1 ≤ n + 1; omega⟩
/-- Who owes. -/
theorem dl_owes {sum a b : Int} {p : Bool} {l : Lf} {st : Int} {d : Dr} {paid : List Dr} {k : Int} {n : Nat} (h : DL (crD sum a b p) l st d paid k n) (hst : st = 4 ∨ st = 5 ∨ st = 6) :
    l.owes kB = decide (st = 4) ∧ l.owes yB = decide (st = 5) ∧ l.now.amt = d.amt := by
  have e : l.debtor = if l.st = 4 then l.bank else if l.st = 5 then l.payer else ⟨#[]⟩ := rfl
  have e1 : l.bank = kB := by unfold Lf.bank; rw [h.cf, h.c]; rfl
  have e2 : l.payer = yB := by unfold Lf.payer; rw [h.cf, h.c]; rfl
  rw [e1, e2, h.st] at e
  unfold Lf.owes
  rw [e, h.st, h.now]
  rcases hst with rfl | rfl | rfl <;> exact ⟨by decide +kernel, by decide +kernel, rfl⟩
theorem may_okD {c : Cr} {l : List Dr} {d : Dr} (h : mayCode c l d = 0) : draws (l ++ [d]) = true ∧ dsum (l ++ [d]) ≤ c.most ∧ (c.part = false → l = []) := by
  unfold mayCode mayArg at h
  cases hb : c.bnd <;> cases hd : draws (l ++ [d]) <;> simp [hb, hd] at h
  refine ⟨rfl, ?_, ?_⟩
  · apply Classical.byContradiction; intro h1
    by_cases h2 : c.expiry < d.day
    · rw [if_pos h2] at h; omega
    · rw [if_neg h2] at h
      by_cases h3 : c.part = false ∧ 0 < l.length
      · rw [if_pos h3] at h; omega
      · rw [if_neg h3, if_pos (by omega)] at h; omega
  · intro hp
    apply Classical.byContradiction; intro h1
    have hl : 0 < l.length := List.length_pos_iff.2 h1
    by_cases h2 : c.expiry < d.day
    · rw [if_pos h2] at h; omega
    · rw [if_neg h2, if_pos ⟨hp, hl⟩] at h; omega
end Go.Proofs.YtbigoifpfkdkjaaGreatDoor.Sc
namespace Go.Proofs.YtbigoifpfkdkjaaGreatDoor.Sc
open Go Go.RowKit Go.ChangeShapes Go.WideShapes Go.ChangeAt
set_option maxRecDepth 100000

/-- A life at bk, made since W0; blocks K are none of its own. -/
structure Run (W0 w : World) (bk : Nat) (l : Lf) (K : Nat → Prop) : Prop where
  life : ∃ F, Lv w 116 F bk l ∧ (∀ j, F j → W0.heap.size ≤ j) ∧ ∀ g, K g → ¬ F g
  kept : ∀ g, K g → g < w.heap.size
  bel : Below W0.heap.size W0 w
theorem Run.below {W0 w w' : World} {bk : Nat} {l : Lf} {K : Nat → Prop} (h : Run W0 w bk l K) (hb : Below w.heap.size w w') : Run W0 w' bk l K := by
  obtain ⟨⟨F, h1, h2, h3⟩, h4, h5⟩ := h
  exact ⟨⟨F, h1.below hb, h2, h3⟩, fun g hg => Nat.lt_of_lt_of_le (h4 g hg) hb.size, h5.trans (hb.mono h5.size)⟩
theorem Run.sub {W0 w : World} {bk : Nat} {l : Lf} {K K' : Nat → Prop} (h : Run W0 w bk l K) (hk : ∀ g, K' g → K g) : Run W0 w bk l K' := by
  obtain ⟨⟨F, h1, h2, h3⟩, h4, h5⟩ := h
  exact ⟨⟨F, h1, h2, fun g hg => h3 g (hk g hg)⟩, fun g hg => h4 g (hk g hg), h5⟩
/-- A new block is kept too. -/
theorem Run.box {W0 w : World} {bk : Nat} {l : Lf} {K : Nat → Prop} (h : Run W0 w bk l K) (o : Obj) : Run W0 (w.alloc o) bk l (fun g => K g ∨ g = w.heap.size) := by
  obtain ⟨⟨F, h1, h2, h3⟩, h4, h5⟩ := h
  have hb := one_below w o
  refine ⟨⟨F, h1.below hb, h2, fun g hg hF => hg.elim (fun h => h3 g h hF) (fun e => ?_)⟩, fun g hg => hg.elim (fun h => Nat.lt_of_lt_of_le (h4 g h) hb.size) (fun e => by rw [e]; simp), h5.trans (hb.mono h5.size)⟩
  have := h1.lt g hF
  omega
theorem Run.call {W0 w : World} {bk : Nat} {l l' : Lf} {K : Nat → Prop} {f : FuncId} {args : Array Value} {n : Int} (h : Run W0 w bk l K) (hc : ∀ F, Lv w 116 F bk l → Calls Tryz.prog f args w (AfterL w 116 F n bk l')) :
    Calls Tryz.prog f args w (fun e w' => e = .returned (.int .i64 n) ∧ Run W0 w' bk l' K ∧ (∀ g, K g → w'.heap[g]? = w.heap[g]?) ∧ w.heap.size ≤ w'.heap.size) := by
  obtain ⟨⟨F, h1, h2, h3⟩, h4, h5⟩ := h
  refine (hc F h1).mono fun e w' ha => ?_
  obtain ⟨e1, hk, F', hl, hF⟩ := ha
  refine ⟨e1, ⟨⟨F', hl, fun j hj => (hF j hj).elim (h2 j) (fun h => Nat.le_trans h5.size h), fun g hg hf => (hF g hf).elim (h3 g hg) (fun h => by have := h4 g hg; omega)⟩, fun g hg => Nat.lt_of_lt_of_le (h4 g hg) hk.size, hk.behind h5 h5.size (fun q hq e => by have := h2 q e; omega)⟩, fun g hg => hk.block g (h4 g hg) (h3 g hg), hk.size⟩
/-- A kept row grows. -/
theorem Run.push {W0 w w' : World} {bk : Nat} {l : Lf} {v v' : Value} {e : TypeId} {sz n n' : Nat} {xs xs' : List Value} (h : Run W0 w bk l (fun g => v.ownBlock = some g)) (hrow : w.ownsRow W0.heap.size e sz v n xs) (hg : w.grownBy w' v.ownBlock) (hrow' : w'.ownsRow W0.heap.size e sz v' n' xs') (hw : ∀ b, v'.ownBlock = some b → v.ownBlock = some b ∨ w.heap.size ≤ b) :
    Run W0 w' bk l (fun g => v'.ownBlock = some g) := by
  obtain ⟨⟨F, h1, h2, h3⟩, h4, h5⟩ := h
  have hk : Keep (fun b => v.ownBlock = some b) w w' := ⟨hg.os, hg.tape, hg.output, hg.size, fun k hk hn => hg.block k hk (fun e => hn e.symm)⟩
  refine ⟨⟨F, h1.keep hk (fun b hb e => h3 b e hb), h2, fun g hgv hF => (hw g hgv).elim (fun h => h3 g h hF) (fun h => by have := h1.lt g hF; omega)⟩, fun g hgv => (hrow'.lt g hgv).2, h5.grown hg h5.size (fun b hb => (hrow.lt b hb).1)⟩
theorem Run.owes {W0 w : World} {bk : Nat} {l : Lf} {K : Nat → Prop} (h : Run W0 w bk l K) (p : ByteArray) :
    Calls Tryz.prog 11 #[.pointer (some ⟨bk, 0, none⟩), .string p] w (Ret w (.tuple #[.int .i64 (if l.owes p then l.now.amt else 0), .bool (l.owes p)])) := by
  obtain ⟨F, h1, -, -⟩ := h.life
  exact owes_lv h1 p
/-- Do, of a life that is known. -/
theorem Run.do {W0 w : World} {bk : Nat} {l : Lf} {K : Nat → Prop} (h : Run W0 w bk l K) (e : Ev) (s0 : 0 ≤ l.st) (s7 : l.st ≤ 7) (hp : l.paid.length ≤ 4000) (he : l.evs.length ≤ 4000) :
    Calls Tryz.prog 9 #[.pointer (some ⟨bk, 0, none⟩), .agg #[.int .i64 e.kind, .string e.party, .int .i64 e.day, .int .i64 e.amt]] w (fun en w' => en = .returned (.int .i64 (l.step e).1) ∧ Run W0 w' bk (l.step e).2 K ∧ (∀ g, K g → w'.heap[g]? = w.heap[g]?) ∧ w.heap.size ≤ w'.heap.size) :=
  h.call fun F hl => doP_any bk l F e w hl s0 s7 hp he
theorem Run.do' {W0 w : World} {bk : Nat} {l : Lf} {K : Nat → Prop} {c : Cr} {st : Int} {now : Dr} {paid : List Dr} {k : Int} {n : Nat} (h : Run W0 w bk l K) (hd : DL c l st now paid k n) (e : Ev) (hs : 0 ≤ st ∧ st ≤ 7) (hp : paid.length ≤ 4000) (he : n ≤ 4000) :
    Calls Tryz.prog 9 #[.pointer (some ⟨bk, 0, none⟩), .agg #[.int .i64 e.kind, .string e.party, .int .i64 e.day, .int .i64 e.amt]] w (fun en w' => en = .returned (.int .i64 (l.step e).1) ∧ Run W0 w' bk (l.step e).2 K ∧ (∀ g, K g → w'.heap[g]? = w.heap[g]?) ∧ w.heap.size ≤ w'.heap.size) :=
  h.do e (by rw [hd.st]; exact hs.1) (by rw [hd.st]; exact hs.2) (by rw [hd.paid]; exact hp) (Nat.le_trans hd.n he)
theorem most_yesD {c : Cr} (h : c.bnd = true) (w : World) : Calls Tryz.prog 7 #[.agg c.cells] w (Ret w (.tuple #[.int .i64 c.most, .int .i64 0])) :=
  (Most_any c w).mono fun e w' h' => by simpa [RetM, h] using h'
theorem left_yes {c : Cr} {l : List Dr} (hb : c.bnd = true) (hd : draws l = true) (hm : dsum l ≤ c.most) (v : Value) (w : World) (hsl : Sl w 2 v (l.map Dr.row)) : Calls Tryz.prog 12 #[.agg c.cells, v] w (Ret w (.tuple #[.int .i64 (c.most - dsum l), .int .i64 0])) :=
  (Left_any c l v w hsl).mono fun e w' h' => by
    have h1 : leftOk c l = true := by simp [leftOk, hb, hd]
    have h2 : ¬ c.most - dsum l < 0 := by omega
    simpa [RetLeft, h1, h2] using h'
theorem DL.mono {c : Cr} {l : Lf} {st : Int} {now : Dr} {paid : List Dr} {k k' : Int} {n n' : Nat} (h : DL c l st now paid k n) (hk : k ≤ k') (hn : n ≤ n') : DL c l st now paid k' n' :=
  ⟨h.c, h.st, h.cf, h.rp, h.now, h.paid, fun x hx => Int.le_trans (h.ev x hx) hk, Nat.le_trans h.n hn⟩
/-- What holds of what was paid. -/
structure PD (c : Cr) (paid : List Dr) (k : Nat) : Prop where
  ok : draws paid = true
  most : dsum paid ≤ c.most
  one : c.part = false → paid.length ≤ 1
  len : paid.length ≤ k
theorem PD.next {c : Cr} {paid : List Dr} {k : Nat} {d : Dr} (h : PD c paid k) (hm : mayCode c paid d = 0) : PD c (paid ++ [d]) (k + 1) := by
  obtain ⟨h1, h2, h3⟩ := may_okD hm
  exact ⟨h1, h2, fun hp => by rw [h3 hp]; simp, by rw [List.length_append]; have := h.len; simp; omega⟩
theorem PD.mono {c : Cr} {paid : List Dr} {k : Nat} (h : PD c paid k) : PD c paid (k + 1) := ⟨h.ok, h.most, h.one, by have := h.len; omega⟩
/-- Owes, of a life that is known. -/
theorem Run.owe {W0 w : World} {bk : Nat} {l : Lf} {K : Nat → Prop} {sum a b : Int} {p : Bool} {st : Int} {d : Dr} {paid : List Dr} {k : Int} {n : Nat} (h : Run W0 w bk l K) (hd : DL (crD sum a b p) l st d paid k n) (hst : st = 4 ∨ st = 5 ∨ st = 6) :
    Calls Tryz.prog 11 #[.pointer (some ⟨bk, 0, none⟩), .string kB] w (Ret w (.tuple #[.int .i64 (if st = 4 then d.amt else 0), .bool (decide (st = 4))])) ∧
    Calls Tryz.prog 11 #[.pointer (some ⟨bk, 0, none⟩), .string yB] w (Ret w (.tuple #[.int .i64 (if st = 5 then d.amt else 0), .bool (decide (st = 5))])) := by
  obtain ⟨h1, h2, h3⟩ := dl_owes hd hst
  have g1 := h.owes kB
  have g2 := h.owes yB
  rw [h1, h3] at g1
  rw [h2, h3] at g2
  simp only [decide_eq_true_eq] at g1 g2
  exact ⟨g1, g2⟩
theorem dr_one (a b : Int) : ∀ u ∈ (#[.int .i64 a, .int .i64 b] : Array Value).toList, u.oneCell' = true := by
  intro u hu
  simp only [List.mem_cons, List.not_mem_nil, or_false] at hu
  rcases hu with rfl | rfl <;> rfl
end Go.Proofs.YtbigoifpfkdkjaaGreatDoor.Sc
