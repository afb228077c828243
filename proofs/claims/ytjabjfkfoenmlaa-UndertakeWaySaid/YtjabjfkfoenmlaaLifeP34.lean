/- The program's life: its questions and its rules' closures. -/
import Derived.Test.YtjabjfkfoenmlaaLifeR34
import Derived.Test.YtjabjfkfoenmlaaChars
namespace Go.Proofs.Ytjabjfkfoenmlaa.Sc
open Go Go.RowKit Go.ChangeShapes Go.WideShapes Go.ChangeAt
set_option maxRecDepth 100000

theorem state_any (b : Nat) (l : Lf) (vp ve : Value) (w : World) (hb : Box w 74 b l vp ve) :
    Calls Try.prog 19 #[.pointer (some ⟨b, 0, none⟩)] w (Ret w (.int .i64 l.st)) := by
  have d := hb.cell 18
  rw [Lf.cell18] at d
  clear hb
  generalize l.st = v at *
  go_enter Try.func19, Try.ntmps19
  go_wp2
  go_ret
  exact ⟨rfl, Below.refl _ _⟩

theorem issuer_any (b : Nat) (l : Lf) (vp ve : Value) (w : World) (hb : Box w 74 b l vp ve) :
    Calls Try.prog 59 #[.pointer (some ⟨b, 0, none⟩)] w (Ret w (.string l.c.s3)) := by
  have d := hb.cell 3
  rw [Lf.cell3] at d
  clear hb
  generalize l.c.s3 = v at *
  go_enter Try.func59, Try.ntmps59
  go_wp2
  go_ret
  exact ⟨rfl, Below.refl _ _⟩

theorem confirmer_any (b : Nat) (l : Lf) (vp ve : Value) (w : World) (hb : Box w 74 b l vp ve) :
    Calls Try.prog 56 #[.pointer (some ⟨b, 0, none⟩)] w (Ret w (.string l.c.s4)) := by
  have d := hb.cell 4
  rw [Lf.cell4] at d
  clear hb
  generalize l.c.s4 = v at *
  go_enter Try.func56, Try.ntmps56
  go_wp2
  go_ret
  exact ⟨rfl, Below.refl _ _⟩

theorem beneficiary_any (b : Nat) (l : Lf) (vp ve : Value) (w : World) (hb : Box w 74 b l vp ve) :
    Calls Try.prog 57 #[.pointer (some ⟨b, 0, none⟩)] w (Ret w (.string l.c.s2)) := by
  have d := hb.cell 2
  rw [Lf.cell2] at d
  clear hb
  generalize l.c.s2 = v at *
  go_enter Try.func57, Try.ntmps57
  go_wp2
  go_ret
  exact ⟨rfl, Below.refl _ _⟩

theorem always_any (v : Value) (w : World) : Calls Try.prog 58 #[v] w (Ret w (.bool true)) := by
  go_enter Try.func58, Try.ntmps58
  go_wp2
  go_ret
  exact ⟨rfl, Below.refl _ _⟩

theorem answers_any (b : Nat) (l : Lf) (vp ve : Value) (w : World) (hb : Box w 74 b l vp ve) :
    Calls Try.prog 38 #[.pointer (some ⟨b, 0, none⟩)] w (Ret w (.string l.bank)) := by
  obtain ⟨d1, d2, d3, d4, d18, d19, d20⟩ := hb.reads
  rw [Lf.bank]
  clear hb d1 d2 d18 d20
  generalize l.c.s3 = s3 at *
  generalize l.c.s4 = s4 at *
  cases hc : l.cf <;> rw [hc] at d19 <;> clear hc <;> (
    go_enter Try.func38, Try.ntmps38
    go_wp2
    go_ret
    exact ⟨rfl, Below.refl _ _⟩)

theorem payer_any (b : Nat) (l : Lf) (vp ve : Value) (w : World) (hb : Box w 74 b l vp ve) :
    Calls Try.prog 39 #[.pointer (some ⟨b, 0, none⟩)] w (Ret w (.string l.payer)) := by
  obtain ⟨d1, d2, d3, d4, d18, d19, d20⟩ := hb.reads
  rw [Lf.payer]
  clear hb d2 d18 d4
  generalize l.c.s3 = s3 at *
  generalize l.c.s1 = s1 at *
  cases hc : l.cf <;> cases hr : l.rp <;> rw [hc] at d19 <;> rw [hr] at d20 <;> clear hc hr <;> (
    go_enter Try.func39, Try.ntmps39
    go_wp2
    go_ret
    exact ⟨rfl, Below.refl _ _⟩)

theorem confirmable_any (b : Nat) (l : Lf) (vp ve : Value) (w : World) (hb : Box w 74 b l vp ve) :
    Calls Try.prog 55 #[.pointer (some ⟨b, 0, none⟩)] w (Ret w (.bool (!l.cf && !l.c.s4.toList.isEmpty))) := by
  obtain ⟨d1, d2, d3, d4, d18, d19, d20⟩ := hb.reads
  clear hb d1 d2 d3 d18 d20
  generalize l.c.s4 = s4 at *
  cases hc : l.cf <;> rw [hc] at d19 <;> cases he : s4.toList.isEmpty <;> clear hc <;> (
    go_enter Try.func55, Try.ntmps55
    go_wp2
    go_ret
    exact ⟨rfl, Below.refl _ _⟩)

/-- Who owes, of the program: the one of the reference's, and of the draw's sum. -/
def Lf.owes (l : Lf) (p : ByteArray) : Bool := (decide (l.st = 4) || decide (l.st = 5)) && decide (p = l.debtor)
theorem owes_any (b : Nat) (l : Lf) (vp ve : Value) (p : ByteArray) (w : World) (hb : Box w 74 b l vp ve) :
    Calls Try.prog 17 #[.pointer (some ⟨b, 0, none⟩), .string p] w (Ret w (.tuple #[.int .i64 (if l.owes p then l.now.amt else 0), .bool (l.owes p)])) := by
  obtain ⟨d1, d2, d3, d4, d18, d19, d20⟩ := hb.reads
  have d22 : w.cell? ⟨b, 22, none⟩ = some (.int .i64 l.now.amt) := hb.cell 22
  have hA := answers_any b l vp ve w hb
  have hP := payer_any b l vp ve w hb
  obtain ⟨x, hx⟩ : ∃ x, x = l.owes p := ⟨_, rfl⟩
  rw [← hx]
  simp only [Lf.owes] at hx
  clear d1 d2 d3 d4 d19 d20
  generalize l.now.amt = m at *
  by_cases h4 : l.st = 4
  · have t4 : (l.st == 4) = true := by simp [h4]
    simp only [show l.debtor = l.bank by rw [Lf.debtor, if_pos h4], h4, decide_true, Bool.true_or, Bool.true_and] at hx
    clear h4 hP
    generalize l.st = st at *
    by_cases he : p = l.bank
    · have q1 := str_yes he
      rw [decide_eq_true he] at hx
      subst hx
      clear he
      have HB := Lib.hid hb
      clear hb
      go_enter Try.func17, Try.ntmps17
      go_wp2_with (first
        | ((with_reducible refine hA.mono ?_); rintro e w2 ⟨rfl, hb2⟩; have d22' := (hb2.cell (p := ⟨b, 22, none⟩) (lt_blk HB.out)).trans d22)
        | fail)
      go_ret2
      exact ⟨rfl, hb2⟩
    · have q1 := str_no he
      rw [decide_eq_false he] at hx
      subst hx
      clear he
      go_enter Try.func17, Try.ntmps17
      go_wp2_with (first
        | ((with_reducible refine hA.mono ?_); rintro e w2 ⟨rfl, hb2⟩)
        | fail)
      go_ret2
      exact ⟨rfl, hb2⟩
  · have t4 : (l.st == 4) = false := by simp [h4]
    by_cases h5 : l.st = 5
    · have t5 : (l.st == 5) = true := by simp [h5]
      simp only [show l.debtor = l.payer by rw [Lf.debtor, if_neg h4, if_pos h5], h5, decide_true, Bool.or_true, Bool.true_and] at hx
      clear h4 h5 hA
      generalize l.st = st at *
      by_cases he : p = l.payer
      · have q1 := str_yes he
        rw [decide_eq_true he] at hx
        subst hx
        clear he
        have HB := Lib.hid hb
        clear hb
        go_enter Try.func17, Try.ntmps17
        go_wp2_with (first
          | ((with_reducible refine hP.mono ?_); rintro e w2 ⟨rfl, hb2⟩; have d22' := (hb2.cell (p := ⟨b, 22, none⟩) (lt_blk HB.out)).trans d22)
          | fail)
        go_ret2
        exact ⟨rfl, hb2⟩
      · have q1 := str_no he
        rw [decide_eq_false he] at hx
        subst hx
        clear he
        go_enter Try.func17, Try.ntmps17
        go_wp2_with (first
          | ((with_reducible refine hP.mono ?_); rintro e w2 ⟨rfl, hb2⟩)
          | fail)
        go_ret2
        exact ⟨rfl, hb2⟩
    · have t5 : (l.st == 5) = false := by simp [h5]
      simp only [h4, h5, decide_false, Bool.or_false, Bool.false_and] at hx
      subst hx
      clear h4 h5 hA hP hb d22
      generalize l.st = st at *
      go_enter Try.func17, Try.ntmps17
      go_wp2
      go_ret2
      exact ⟨rfl, Below.refl _ _⟩
end Go.Proofs.Ytjabjfkfoenmlaa.Sc
