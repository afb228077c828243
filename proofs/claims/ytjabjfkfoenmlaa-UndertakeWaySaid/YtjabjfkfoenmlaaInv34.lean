/- What holds of every life that New made. -/
import Derived.Test.YtjabjfkfoenmlaaTerms34
import Derived.Test.YtjabjfkfoenmlaaRef30
namespace Go.Proofs.Ytjabjfkfoenmlaa.Sc
open Go Go.RowKit Go.ChangeShapes Go.WideShapes Go.ChangeAt
set_option maxRecDepth 100000

/-- What holds of a credit's life. -/
structure Lf.good (c : Cr) (l : Lf) : Prop where
  cr : l.c = c
  s0 : 0 ≤ l.st
  s7 : l.st ≤ 7
  e4 : l.cf = true → c.s4.toList.isEmpty = false
  now : l.st = 2 ∨ l.st = 4 ∨ l.st = 5 → 1 ≤ l.now.amt ∧ l.now.amt ≤ c.most

theorem may_ok {c : Cr} {l : List Dr} {d : Dr} (h : mayCode c l d = 0) : c.bnd = true ∧ draws (l ++ [d]) = true ∧ d.day ≤ c.expiry ∧ dsum (l ++ [d]) ≤ c.most := by
  unfold mayCode mayArg at h
  cases hb : c.bnd <;> cases hd : draws (l ++ [d]) <;> simp [hb, hd] at h
  refine ⟨rfl, rfl, ?_, ?_⟩
  · apply Classical.byContradiction; intro h1; rw [if_pos (by omega)] at h; omega
  · apply Classical.byContradiction; intro h1
    by_cases h2 : c.expiry < d.day
    · rw [if_pos h2] at h; omega
    · rw [if_neg h2] at h
      by_cases h3 : c.part = false ∧ 0 < l.length
      · rw [if_pos h3] at h; omega
      · rw [if_neg h3, if_pos (by omega)] at h; omega
theorem draws_mem {l : List Dr} (h : draws l = true) : ∀ d ∈ l, 1 ≤ d.amt ∧ d.amt ≤ 1099511627776 := by
  simp only [draws, Bool.and_eq_true] at h
  exact drawsFrom_mem l 0 h.2
theorem may_amt {c : Cr} {l : List Dr} {d : Dr} (h : mayCode c l d = 0) : 1 ≤ d.amt ∧ d.amt ≤ c.most := by
  obtain ⟨_, h1, _, h2⟩ := may_ok h
  have hm := draws_mem h1
  have hd := hm d (by simp)
  have hs := dsum_bd l (fun x hx => hm x (by simp [hx]))
  rw [dsum_append] at h2
  simp only [dsum] at h2
  omega

theorem turn_good {c : Cr} {l : Lf} (g : l.good c) (k : Int) (h0 : 0 ≤ k) (h7 : k ≤ 7) (e : Ev) (hc : l.can k = true) : (l.turn k e).2.good c := by
  have hb := bit_st k l.st h0 h7 g.s0 g.s7
  unfold Lf.can at hc
  rw [hb, Bool.and_eq_true] at hc
  obtain ⟨hc, hm⟩ := hc
  clear hb
  obtain ⟨g1, g2, g3, g4, g5⟩ := g
  rcases eight h0 h7 with rfl | rfl | rfl | rfl | rfl | rfl | rfl | rfl <;> simp at hc
  · exact ⟨g1, by simp [Lf.turn], by simp [Lf.turn], g4, by simp [Lf.turn]⟩
  · refine ⟨g1, by simpa [Lf.turn] using g2, by simpa [Lf.turn] using g3, fun _ => ?_, by simpa [Lf.turn] using g5⟩
    simp [Lf.mayB, g1] at hm
    simpa using hm.2
  · simp only [Lf.turn, show ¬ ((2 : Int) = 0) by decide, show ¬ ((2 : Int) = 1) by decide, if_false, if_true]
    split
    · rename_i h
      rw [g1] at h
      exact ⟨g1, by simp [Lf.present], by simp [Lf.present], g4, fun _ => may_amt h⟩
    · exact ⟨g1, g2, g3, g4, g5⟩
  · exact ⟨g1, by simp [Lf.turn, Lf.refuse], by simp [Lf.turn, Lf.refuse], g4, by simp [Lf.turn, Lf.refuse]⟩
  · exact ⟨g1, by simp [Lf.turn], by simp [Lf.turn], g4, fun _ => g5 (.inl hc)⟩
  · exact ⟨g1, by simp [Lf.turn, Lf.pay], by simp [Lf.turn, Lf.pay], g4, fun _ => g5 (.inr (.inl hc))⟩
  · show (l.repay).good c
    unfold Lf.repay
    split
    · exact ⟨g1, g2, g3, g4, g5⟩
    · exact ⟨g1, by simp, by simp, g4, by simp⟩
  · show (if e.day ≤ l.c.expiry then l else l.expire).good c
    split
    · exact ⟨g1, g2, g3, g4, g5⟩
    · exact ⟨g1, by simp [Lf.expire], by simp [Lf.expire], g4, by simp [Lf.expire]⟩
theorem step_good {c : Cr} {l : Lf} (g : l.good c) (e : Ev) : (l.step e).2.good c := by
  unfold Lf.step Lf.stepW
  split
  · exact g
  split
  · exact g
  split
  · exact g
  split
  · exact g
  rename_i h1 h2 h3 h4
  have hk := ev_kind (e := e) (by cases h : e.ok <;> simp_all)
  have ht := turn_good g e.kind hk.1 hk.2 e (by cases h : l.can e.kind <;> simp_all)
  split
  · exact ⟨ht.cr, ht.s0, ht.s7, ht.e4, ht.now⟩
  · exact ht
theorem new_good (c : Cr) : (Lf.new c).good c.bare := ⟨rfl, by simp [Lf.new], by simp [Lf.new], (by simp [Lf.new]), (by simp [Lf.new])⟩

theorem name_emp {s : ByteArray} (h : nameOk s = true) : s.toList.isEmpty = false := by
  cases he : s.toList.isEmpty
  · rfl
  · have : s = ⟨#[]⟩ := by
      have h1 : s.toList = [] := by simpa using he
      have h2 := str_beq s ⟨#[]⟩
      rw [h1] at h2
      simpa using h2.symm
    subst this
    revert h
    decide +kernel
/-- What May of a credit says. -/
structure Cr.Lives (c : Cr) : Prop where
  bnd : c.bnd = true
  n1 : c.s1.toList.isEmpty = false
  n2 : c.s2.toList.isEmpty = false
  n3 : c.s3.toList.isEmpty = false
  d13 : ¬ c.s1 = c.s3
  d23 : ¬ c.s2 = c.s3
  d21 : ¬ c.s2 = c.s1
  d4 : c.s4.toList.isEmpty = true ∨ (¬ c.s4 = c.s3 ∧ ¬ c.s4 = c.s1 ∧ ¬ c.s4 = c.s2)
theorem lives_iff {c : Cr} (h : c.lives = true) : c.Lives := by
  unfold Cr.lives at h
  simp only [Bool.and_eq_true, Bool.or_eq_true, Bool.not_eq_true', decide_eq_false_iff_not] at h
  obtain ⟨h1, ⟨h2, h3, h4⟩, ⟨h5, h6, h7⟩, h8⟩ := h
  exact ⟨h1, name_emp h3, name_emp h4, name_emp h2, h5, h6, h7, h8.imp id fun h => ⟨h.2.1, h.2.2.1, h.2.2.2⟩⟩
theorem good_fit {c : Cr} {l : Lf} (hl : c.Lives) (g : l.good c) : l.fit := by
  obtain ⟨g1, g2, g3, g4, _⟩ := g
  subst g1
  exact ⟨g2, g3, hl.n1, hl.n2, hl.n3, g4⟩

theorem step_len (l : Lf) (e : Ev) : (l.step e).2.evs.length ≤ l.evs.length + 1 ∧ (l.step e).2.paid.length ≤ l.paid.length + 1 := by
  have h1 := turn_evs l e.kind e
  have h2 : (l.turn e.kind e).2.paid.length ≤ l.paid.length + 1 := by
    unfold Lf.turn Lf.present Lf.refuse Lf.pay Lf.repay Lf.expire
    repeat' split
    all_goals simp
  unfold Lf.step Lf.stepW
  repeat' split
  all_goals simp [h1] <;> omega
/-- The life behind events. -/
def lifeOf (c : Cr) (es : List Ev) : Lf := es.foldl (fun l e => (l.step e).2) (Lf.new c)
theorem lifeOf_take (c : Cr) (es : List Ev) (k : Nat) (h : k < es.length) : lifeOf c (es.take (k + 1)) = ((lifeOf c (es.take k)).step es[k]).2 := by
  rw [lifeOf, List.take_succ_eq_append_getElem h, List.foldl_append]; rfl
theorem lifeOf_good (c : Cr) (es : List Ev) : (lifeOf c es).good c.bare := by
  have : ∀ (es : List Ev) (l : Lf), l.good c.bare → (es.foldl (fun l e => (l.step e).2) l).good c.bare := by
    intro es
    induction es with
    | nil => intro l h; exact h
    | cons e r ih => intro l h; exact ih _ (step_good h e)
  exact this es _ (new_good c)
theorem lifeOf_len (c : Cr) (es : List Ev) : (lifeOf c es).evs.length ≤ es.length ∧ (lifeOf c es).paid.length ≤ es.length := by
  have : ∀ (es : List Ev) (l : Lf), (es.foldl (fun l e => (l.step e).2) l).evs.length ≤ l.evs.length + es.length ∧ (es.foldl (fun l e => (l.step e).2) l).paid.length ≤ l.paid.length + es.length := by
    intro es
    induction es with
    | nil => intro l; simp
    | cons e r ih =>
      intro l
      have h1 := ih (l.step e).2
      have h2 := step_len l e
      simp only [List.foldl_cons, List.length_cons]
      omega
  simpa [lifeOf, Lf.new] using this es (Lf.new c)

/-- How many of some owe. -/
def cntO (l : Lf) (ps : List ByteArray) : Nat := (ps.filter fun p => l.owes p).length
theorem four_owe {c : Cr} {l : Lf} (hl : c.Lives) (g : l.good c) : cntO l [c.s3, c.s1, c.s2, c.s4] = if l.st = 4 ∨ l.st = 5 then 1 else 0 := by
  obtain ⟨g1, g2, g3, g4, _⟩ := g
  subst g1
  obtain ⟨b, n1, n2, n3, d13, d23, d21, d4⟩ := hl
  have d4' : (¬ l.c.s4 = l.c.s3 ∧ ¬ l.c.s4 = l.c.s1 ∧ ¬ l.c.s4 = l.c.s2) := by
    rcases d4 with h | h
    · refine ⟨fun e => ?_, fun e => ?_, fun e => ?_⟩ <;> rw [e] at h
      · rw [n3] at h; cases h
      · rw [n1] at h; cases h
      · rw [n2] at h; cases h
    · exact h
  clear d4 n1 n2 n3 b g4
  obtain ⟨d43, d41, d42⟩ := d4'
  have e31 : ¬ l.c.s3 = l.c.s1 := fun h => d13 h.symm
  have e32 : ¬ l.c.s3 = l.c.s2 := fun h => d23 h.symm
  have e12 : ¬ l.c.s1 = l.c.s2 := fun h => d21 h.symm
  have e34 : ¬ l.c.s3 = l.c.s4 := fun h => d43 h.symm
  have e14 : ¬ l.c.s1 = l.c.s4 := fun h => d41 h.symm
  have e24 : ¬ l.c.s2 = l.c.s4 := fun h => d42 h.symm
  unfold cntO Lf.owes Lf.debtor Lf.bank Lf.payer
  by_cases h4 : l.st = 4
  · cases hc : l.cf <;> simp [*]
  · by_cases h5 : l.st = 5
    · cases hc : l.cf <;> cases hr : l.rp <;> simp [*]
    · simp [h4, h5]
theorem owes_amt {c : Cr} {l : Lf} (g : l.good c) {p : ByteArray} (h : l.owes p = true) : 1 ≤ l.now.amt ∧ l.now.amt ≤ c.most := by
  simp only [Lf.owes, Bool.and_eq_true, Bool.or_eq_true, decide_eq_true_eq] at h
  exact g.now (h.1.elim (fun h => .inr (.inl h)) (fun h => .inr (.inr h)))
end Go.Proofs.Ytjabjfkfoenmlaa.Sc
