/- The reference's life: who owes, who may do what. -/
import Derived.Test.YtjabjfkfoenmlaaLife34
namespace Go.Proofs.Ytjabjfkfoenmlaa.Sc
open Go Go.RowKit Go.ChangeShapes Go.WideShapes Go.ChangeAt
set_option maxRecDepth 100000

/-- The cells that the reference's questions read. -/
structure Reads (w : World) (b : Nat) (l : Lf) : Prop where
  d1 : w.cell? ⟨b, 1, none⟩ = some (.string l.c.s1)
  d2 : w.cell? ⟨b, 2, none⟩ = some (.string l.c.s2)
  d3 : w.cell? ⟨b, 3, none⟩ = some (.string l.c.s3)
  d4 : w.cell? ⟨b, 4, none⟩ = some (.string l.c.s4)
  d18 : w.cell? ⟨b, 18, none⟩ = some (.int .i64 l.st)
  d19 : w.cell? ⟨b, 19, none⟩ = some (.bool l.cf)
  d20 : w.cell? ⟨b, 20, none⟩ = some (.bool l.rp)
theorem Box.reads {w : World} {t : TypeId} {b : Nat} {l : Lf} {vp ve : Value} (h : Box w t b l vp ve) : Reads w b l :=
  ⟨h.cell 1, h.cell 2, h.cell 3, h.cell 4, h.cell 18, h.cell 19, h.cell 20⟩

theorem debtor_any (b : Nat) (l : Lf) (vp ve : Value) (w : World) (hb : Box w 65 b l vp ve) :
    Calls Try.prog 44 #[.pointer (some ⟨b, 0, none⟩)] w (Ret w (.string l.debtor)) := by
  obtain ⟨d1, d2, d3, d4, d18, d19, d20⟩ := hb.reads
  have hB := bank_any b l vp ve w hb
  by_cases h4 : l.st = 4
  · have h : l.debtor = l.bank := by rw [Lf.debtor, if_pos h4]
    have t4 : (l.st == 4) = true := by simp [h4]
    rw [h]; clear h h4 hb d1 d2 d3 d4 d19 d20
    generalize l.st = st at *
    go_enter Try.func44, Try.ntmps44
    go_wp2_with (first
      | ((with_reducible refine hB.mono ?_); rintro e w2 ⟨rfl, hb2⟩)
      | fail)
    go_ret
    exact ⟨rfl, hb2⟩
  · have t4 : (l.st == 4) = false := by simp [h4]
    by_cases h5 : l.st = 5
    · have h : l.debtor = l.payer := by rw [Lf.debtor, if_neg h4, if_pos h5]
      have t5 : (l.st == 5) = true := by simp [h5]
      rw [h]; clear h h4 h5 hb hB d2 d4
      have hp : l.payer = if l.cf && !l.rp then l.c.s3 else l.c.s1 := rfl
      rw [hp]; clear hp
      generalize l.st = st at *
      generalize l.c.s3 = s3 at *
      generalize l.c.s1 = s1 at *
      cases hc : l.cf <;> cases hr : l.rp <;> rw [hc] at d19 <;> rw [hr] at d20 <;> clear hc hr <;> (
        go_enter Try.func44, Try.ntmps44
        go_wp2
        go_ret
        exact ⟨rfl, Below.refl _ _⟩)
    · have h : l.debtor = ⟨#[]⟩ := by rw [Lf.debtor, if_neg h4, if_neg h5]
      have t5 : (l.st == 5) = false := by simp [h5]
      rw [h]; clear h h4 h5 hb hB d1 d2 d3 d4
      generalize l.st = st at *
      cases hc : l.cf <;> rw [hc] at d19 <;> clear hc <;> (
        go_enter Try.func44, Try.ntmps44
        go_wp2
        go_ret
        exact ⟨rfl, Below.refl _ _⟩)

/-- Who may do a kind; empty: nobody, as it stands. -/
def Lf.who (l : Lf) (k : Int) : ByteArray :=
  if k = 0 then (if l.st = 0 then l.c.s3 else ⟨#[]⟩)
  else if k = 1 then (if l.st = 1 then (if l.cf then ⟨#[]⟩ else l.c.s4) else ⟨#[]⟩)
  else if k = 2 then (if l.st = 1 ∨ l.st = 3 ∨ l.st = 6 then l.c.s2 else ⟨#[]⟩)
  else if k = 3 ∨ k = 4 then (if l.st = 2 then l.bank else ⟨#[]⟩)
  else if k = 5 then (if l.st = 4 then l.bank else ⟨#[]⟩)
  else if k = 6 then (if l.st = 5 then l.debtor else ⟨#[]⟩)
  else if k = 7 then (if l.st = 0 ∨ l.st = 1 ∨ l.st = 3 ∨ l.st = 6 then l.c.s3 else ⟨#[]⟩) else ⟨#[]⟩

theorem eight {x : Int} (h0 : 0 ≤ x) (h7 : x ≤ 7) : x = 0 ∨ x = 1 ∨ x = 2 ∨ x = 3 ∨ x = 4 ∨ x = 5 ∨ x = 6 ∨ x = 7 := by omega

set_option maxHeartbeats 8000000 in
theorem by_any (b : Nat) (l : Lf) (vp ve : Value) (w : World) (hb : Box w 65 b l vp ve) (k : Int) (hk0 : 0 ≤ k) (hk7 : k ≤ 7) (hs0 : 0 ≤ l.st) (hs7 : l.st ≤ 7) :
    Calls Try.prog 42 #[.pointer (some ⟨b, 0, none⟩), .int .i64 k] w (Ret w (.string (l.who k))) := by
  obtain ⟨d1, d2, d3, d4, d18, d19, d20⟩ := hb.reads
  have hB := bank_any b l vp ve w hb
  have hD := debtor_any b l vp ve w hb
  obtain ⟨x, hx⟩ : ∃ x, x = l.who k := ⟨_, rfl⟩
  rw [← hx]
  unfold Lf.who at hx
  clear hb d1 d20
  generalize l.st = st at *
  generalize l.c.s2 = s2 at *
  generalize l.c.s3 = s3 at *
  generalize l.c.s4 = s4 at *
  generalize l.bank = vb at *
  generalize l.debtor = vd at *
  generalize l.cf = cf at *
  rcases eight hk0 hk7 with rfl | rfl | rfl | rfl | rfl | rfl | rfl | rfl <;> rcases eight hs0 hs7 with rfl | rfl | rfl | rfl | rfl | rfl | rfl | rfl <;> cases cf <;> simp at hx <;> subst hx <;> clear hk0 hk7 hs0 hs7 <;> (
    go_enter Try.func42, Try.ntmps42
    go_wp2_with (first
      | ((with_reducible refine hB.mono ?_); rintro e w2 ⟨rfl, hb2⟩)
      | ((with_reducible refine hD.mono ?_); rintro e w2 ⟨rfl, hb2⟩)
      | fail)
    go_ret
    first
      | exact ⟨rfl, Below.refl _ _⟩
      | exact ⟨rfl, by assumption⟩)
end Go.Proofs.Ytjabjfkfoenmlaa.Sc
