/- The earliest way, round by round; plainly. -/
import Derived.Test.YtbmjficiceiekaaDoorStart16
namespace Go.Proofs.YtbmjficiceiekaaDoor.Sc
open Go Go.RowKit Go.ChangeShapes Go.WideShapes Go.ChangeAt
set_option maxRecDepth 100000

def frC (V : List Vm) (x : Lg) : Option Cl := (V[x.voy]?).bind fun v => v.calls[x.fr]?
def legsR (R : Rf) (p : ByteArray) : List Lg := match R p with
  | some (_, ls) => ls
  | none => []
/-- What a leg reaches. -/
def reachL (V : List Vm) (R : Rf) (x : Lg) : Int × List Lg := match arrC V x, frC V x with
  | some e, some c => (e.arr, legsR R c.port ++ [x])
  | _, _ => (0, [])
def overR (V : List Vm) (R : Rf) (F : Fr) : Rf := fun p => match F p with
  | none => R p
  | some x => some (reachL V R x)
def nextR (V : List Vm) (fr : ByteArray) (ch : Int) (R : Rf) : Rf := overR V R (freshF V R fr (restV R fr ch V 0))
def R0 (fr : ByteArray) (ready : Int) : Rf := fun p => if p = fr then some (ready, []) else none
def roundsR (V : List Vm) (fr : ByteArray) (ch : Int) (ready : Int) : Nat → Rf
  | 0 => R0 fr ready
  | n + 1 => nextR V fr ch (roundsR V fr ch ready n)
theorem overR_none (V : List Vm) (R : Rf) (F : Fr) (h : ∀ p, F p = none) : overR V R F = R := by
  funext p
  unfold overR
  rw [h p]
theorem rounds_stay {V : List Vm} {fr : ByteArray} {ch ready : Int} {k : Nat} (h : nextR V fr ch (roundsR V fr ch ready k) = roundsR V fr ch ready k) : ∀ n, roundsR V fr ch ready (k + n) = roundsR V fr ch ready k
  | 0 => rfl
  | n + 1 => by
    show nextR V fr ch (roundsR V fr ch ready (k + n)) = _
    rw [rounds_stay h n, h]
/-- The calls of a voyage that may be. -/
def VOk (V : List Vm) : Prop := ∀ v ∈ V, ∀ c ∈ v.calls, (0 ≤ c.cut ∧ c.cut ≤ 1048576) ∧ (0 ≤ c.arr ∧ c.arr ≤ 1048576)
theorem clean_ok (l : List Vm) : VOk (l.map cleanV) := by
  intro v hv c hc
  obtain ⟨x, _, rfl⟩ := List.mem_map.1 hv
  unfold cleanV at hc
  split at hc
  · rename_i h
    obtain ⟨i, hi, rfl⟩ := List.getElem_of_mem hc
    have := okC_range (mayCs_at (mayV_cs h).2.2.2 hi)
    exact ⟨this.1, this.2.1⟩
  · cases hc
theorem arrC_ok {V : List Vm} (h : VOk V) {x : Lg} {c : Cl} (hc : arrC V x = some c) : 0 ≤ c.arr ∧ c.arr ≤ 1048576 := by
  rw [arrC, Option.bind_eq_some_iff] at hc
  obtain ⟨v, hv, hc⟩ := hc
  exact (h v (List.mem_of_getElem? hv) c (List.mem_of_getElem? hc)).2
/-- What holds of what is reached. -/
structure RfOk (V : List Vm) (fr : ByteArray) (ready : Int) (n : Nat) (R : Rf) : Prop where
  from_ : R fr = some (ready, [])
  day : ∀ p d ls, R p = some (d, ls) → p ≠ fr → (0 ≤ d ∧ d ≤ 1048576) ∧ ls ≠ []
  len : ∀ p d ls, R p = some (d, ls) → ls.length ≤ n
theorem legsR_len {V : List Vm} {fr : ByteArray} {ready : Int} {n : Nat} {R : Rf} (h : RfOk V fr ready n R) (p : ByteArray) : (legsR R p).length ≤ n := by
  unfold legsR
  split
  · rename_i d ls e
    exact h.len p _ ls e
  · exact Nat.zero_le _
theorem lgOk_fr {V : List Vm} {x : Lg} (h : LgOk V x) : ∃ c, frC V x = some c := by
  obtain ⟨v, hv, h1, h2⟩ := h
  exact ⟨v.calls[x.fr]'(by omega), by rw [frC, hv, Option.bind_some, List.getElem?_eq_getElem (by omega)]⟩
theorem nextR_ok {V : List Vm} (hv : VOk V) {fr : ByteArray} {ch ready : Int} {n : Nat} {R : Rf} (h : RfOk V fr ready n R) : RfOk V fr ready (n + 1) (nextR V fr ch R) := by
  have hF := freshF_ok (V := V) R fr (restV R fr ch V 0) (legs_ok R fr ch V)
  refine ⟨?_, ?_, ?_⟩
  · unfold nextR overR
    cases hq : freshF V R fr (restV R fr ch V 0) fr with
    | none => exact h.from_
    | some x => exact absurd rfl (hF fr x hq).2.2
  · intro p d ls hp hne
    unfold nextR overR at hp
    cases hq : freshF V R fr (restV R fr ch V 0) p with
    | none => rw [hq] at hp; exact h.day p d ls hp hne
    | some x =>
      rw [hq] at hp
      obtain ⟨hx, ⟨e, he, _⟩, _⟩ := hF p x hq
      obtain ⟨c, hc⟩ := lgOk_fr hx
      have hr : reachL V R x = (e.arr, legsR R c.port ++ [x]) := by unfold reachL; rw [he, hc]
      have h2 := Option.some.inj hp
      rw [hr] at h2
      obtain ⟨rfl, rfl⟩ := Prod.mk.inj h2
      exact ⟨arrC_ok hv he, by simp⟩
  · intro p d ls hp
    unfold nextR overR at hp
    cases hq : freshF V R fr (restV R fr ch V 0) p with
    | none => rw [hq] at hp; exact Nat.le_succ_of_le (h.len p d ls hp)
    | some x =>
      rw [hq] at hp
      obtain ⟨hx, ⟨e, he, _⟩, _⟩ := hF p x hq
      obtain ⟨c, hc⟩ := lgOk_fr hx
      have hr : reachL V R x = (e.arr, legsR R c.port ++ [x]) := by unfold reachL; rw [he, hc]
      have h2 := Option.some.inj hp
      rw [hr] at h2
      obtain ⟨rfl, rfl⟩ := Prod.mk.inj h2
      have := legsR_len h c.port
      simp; omega
theorem rounds_ok {V : List Vm} (hv : VOk V) (fr : ByteArray) (ch ready : Int) : ∀ n, RfOk V fr ready n (roundsR V fr ch ready n)
  | 0 => ⟨if_pos rfl, fun p d ls h hne => by simp [roundsR, R0, hne] at h, fun p d ls h => by
    simp only [roundsR, R0] at h
    split at h
    · obtain ⟨_, rfl⟩ := Prod.mk.inj (Option.some.inj h); simp
    · cases h⟩
  | n + 1 => nextR_ok hv (rounds_ok hv fr ch ready n)
/-- What is reached, in a map, with the legs of each. -/
def RAt (w : World) (bm : Nat) (es : Mp.Ents) (R : Rf) : Prop := Mp.MapAt w bm es ∧ ∀ p, match R p with
  | none => Mp.mget es p = none
  | some (d, ls) => ∃ a n c, Mp.mget es p = some (.agg #[.int .i64 d, .slice a n c]) ∧ Sl w 3 (.slice a n c) (ls.map Lg.row)
theorem RAt.rday {w : World} {bm : Nat} {es : Mp.Ents} {R : Rf} (h : RAt w bm es R) : RDay es R := fun p => by
  have h2 := h.2 p
  cases hp : R p with
  | none => rw [hp] at h2; exact h2
  | some q =>
    rw [hp] at h2
    obtain ⟨a, n, c, h3, _⟩ := h2
    exact ⟨a, n, c, h3⟩
/-- A row of cells is in no map's block. -/
theorem Sl.keepMap {w w' : World} {sz : Nat} {v : Value} {xs : List (List Value)} {bn : Nat} {l : Mp.Ents} (h : Sl w sz v xs) (hm : Mp.MapAt w bn l) (k : Keep (fun b => b = bn) w w') : Sl w' sz v xs := by
  rcases h with h | ⟨b, off, cap, rfl, hlt, h1, h2, hc⟩
  · exact .inl h
  · refine .inr ⟨b, off, cap, rfl, Nat.lt_of_lt_of_le hlt k.size, h1, h2, fun i r hr j u hu => ?_⟩
    have hcu := hc i r hr j u hu
    refine (k.cell hlt (fun e => ?_)).trans hcu
    subst e
    obtain ⟨es, clock, hb, _⟩ := hm
    simp [World.cell?, hb] at hcu
theorem RAt.keep {w w' : World} {bm bn : Nat} {es l : Mp.Ents} {R : Rf} (h : RAt w bm es R) (hm : Mp.MapAt w bn l) (k : Keep (fun b => b = bn) w w') (hne : bm ≠ bn) : RAt w' bm es R :=
  ⟨h.1.same (k.block _ h.1.lt hne), fun p => by
    have h2 := h.2 p
    cases hp : R p with
    | none => rw [hp] at h2; exact h2
    | some q =>
      rw [hp] at h2
      obtain ⟨a, n, c, h3, h4⟩ := h2
      exact ⟨a, n, c, h3, Sl.keepMap h4 hm k⟩⟩
theorem RAt.below {w w' : World} {bm : Nat} {es : Mp.Ents} {R : Rf} (h : RAt w bm es R) (hb : Below w.heap.size w w') : RAt w' bm es R :=
  ⟨h.1.same (hb.block _ h.1.lt), fun p => by
    have h2 := h.2 p
    cases hp : R p with
    | none => rw [hp] at h2; exact h2
    | some q =>
      rw [hp] at h2
      obtain ⟨a, n, c, h3, h4⟩ := h2
      exact ⟨a, n, c, h3, h4.below hb (Nat.le_refl _)⟩⟩
end Go.Proofs.YtbmjficiceiekaaDoor.Sc
