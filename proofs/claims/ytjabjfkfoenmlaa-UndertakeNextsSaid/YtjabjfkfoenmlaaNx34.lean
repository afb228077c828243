/- What Next tells, and the answers of Do: the plain law of UndertakeNexts. -/
import Derived.Test.YtjabjfkfoenmlaaGrown34
import Derived.Test.YtjabjfkfoenmlaaNext34
import Derived.Test.YtjabjfkfoenmlaaCopy34
namespace Go.Proofs.Ytjabjfkfoenmlaa.Sc
open Go Go.RowKit Go.ChangeShapes Go.WideShapes Go.ChangeAt
set_option maxRecDepth 100000

theorem nexts_mem (l : Lf) (k : Int) : k ∈ l.nexts ↔ (0 ≤ k ∧ k ≤ 7) ∧ l.can k = true := by
  unfold Lf.nexts Lf.nextsTo
  simp only [List.mem_map, List.mem_filter, List.mem_range]
  constructor
  · rintro ⟨i, ⟨h1, h2⟩, rfl⟩
    exact ⟨by omega, h2⟩
  · rintro ⟨⟨h0, h7⟩, h⟩
    exact ⟨k.toNat, ⟨by omega, by rw [Int.toNat_of_nonneg h0]; exact h⟩, Int.toNat_of_nonneg h0⟩
/-- Whether a kind may happen. -/
def Lf.nx (l : Lf) (k : Int) : Bool := decide (k ∈ l.nexts)
theorem step_codes (l : Lf) (e : Ev) : ((l.step e).1 = 0 → (l.nx e.kind = true ∧ e.party = l.byv e.kind ∧ nameOk e.party = true)) ∧ ((l.step e).1 = 8 → l.nx e.kind = true) ∧ (l.nx e.kind = false → (l.step e).1 = 1 ∨ (l.step e).1 = 6 ∨ (l.step e).1 = 9) := by
  unfold Lf.step
  cases hok : e.ok
  case false => rw [stepW_bad hok]; simp
  have hk := ev_kind hok
  have hnm : nameOk e.party = true := by
    simp only [Ev.ok, Bool.and_eq_true] at hok
    exact hok.1.1.2
  cases hla : l.late e
  case true => rw [stepW_late hok hla]; simp
  cases hca : l.can e.kind
  case false => rw [stepW_cant hok hla hca]; simp
  have hn : l.nx e.kind = true := decide_eq_true ((nexts_mem l e.kind).2 ⟨hk, hca⟩)
  by_cases hby : e.party = l.byv e.kind
  · exact ⟨fun _ => ⟨hn, hby, hnm⟩, fun _ => hn, fun h => by rw [hn] at h; cases h⟩
  · rw [stepW_other hok hla hca hby]
    exact ⟨fun h => by simp at h, fun _ => hn, fun h => by rw [hn] at h; cases h⟩
/-- How many of these would be answered so. -/
def cntA (l : Lf) (f : ByteArray → Ev) (n : Int) (ps : List ByteArray) : Nat := (ps.filter fun p => decide ((l.step (f p)).1 = n)).length
theorem cntA_take (l : Lf) (f : ByteArray → Ev) (n : Int) (ps : List ByteArray) (k : Nat) (h : k < ps.length) : cntA l f n (ps.take (k + 1)) = cntA l f n (ps.take k) + if (l.step (f ps[k])).1 = n then 1 else 0 := by
  rw [List.take_succ_eq_append_getElem h, cntA, List.filter_append, List.length_append, cntA]
  congr 1
  simp only [List.filter_cons, List.filter_nil, decide_eq_true_eq]
  split <;> rfl
theorem cntA_done {c : Cr} (hl : c.Lives) (l : Lf) (k d a : Int) : cntA l (fun p => ⟨k, p, d, a⟩) 0 [c.s3, c.s1, c.s2, c.s4] ≤ 1 := by
  obtain ⟨b, n1, n2, n3, d13, d23, d21, d4⟩ := hl
  have key : ∀ p, (l.step ⟨k, p, d, a⟩).1 = 0 → p = l.byv k ∧ p.toList.isEmpty = false := fun p h => by
    obtain ⟨_, h2, h3⟩ := (step_codes l ⟨k, p, d, a⟩).1 h
    exact ⟨h2, name_emp h3⟩
  unfold cntA
  have k1 := key c.s1
  have k2 := key c.s2
  have k3 := key c.s3
  have k4 := key c.s4
  clear key
  generalize l.byv k = q at *
  simp only [List.filter_cons, List.filter_nil]
  by_cases h3 : (l.step ⟨k, c.s3, d, a⟩).1 = 0 <;> by_cases h1 : (l.step ⟨k, c.s1, d, a⟩).1 = 0 <;> by_cases h2 : (l.step ⟨k, c.s2, d, a⟩).1 = 0 <;> by_cases h4 : (l.step ⟨k, c.s4, d, a⟩).1 = 0 <;> simp only [h1, h2, h3, h4, decide_true, decide_false, if_true, if_false, List.length_cons, List.length_nil, Bool.false_eq_true] <;> first
    | omega
    | (exfalso
       first
       | exact d13 ((k1 h1).1.trans (k3 h3).1.symm)
       | exact d23 ((k2 h2).1.trans (k3 h3).1.symm)
       | exact d21 ((k2 h2).1.trans (k1 h1).1.symm)
       | (rcases d4 with d4 | d4
          · rw [(k4 h4).2] at d4; cases d4
          · first
            | exact d4.1 ((k4 h4).1.trans (k3 h3).1.symm)
            | exact d4.2.1 ((k4 h4).1.trans (k1 h1).1.symm)
            | exact d4.2.2 ((k4 h4).1.trans (k2 h2).1.symm)))
theorem cntA_holder (l : Lf) (k d a : Int) (ps : List ByteArray) (h : l.nx k = false) : cntA l (fun p => ⟨k, p, d, a⟩) 8 ps = 0 := by
  unfold cntA
  rw [List.length_eq_zero_iff, List.filter_eq_nil_iff]
  intro p _ hp
  have := (step_codes l ⟨k, p, d, a⟩).2.1 (of_decide_eq_true hp)
  rw [h] at this
  cases this
theorem dec_take (L : List Int) (q : Nat) (h : q < L.length) (kd : Int) : decide (kd ∈ L.take (q + 1)) = (decide (kd ∈ L.take q) || (L[q] == kd)) := by
  rw [Bool.eq_iff_iff, List.take_succ_eq_append_getElem h]
  simp only [decide_eq_true_eq, List.mem_append, List.mem_singleton, Bool.or_eq_true, beq_iff_eq]
  exact or_congr Iff.rfl eq_comm
theorem nexts_expired (l : Lf) (h : l.st = 7) : l.nexts = [] := by
  unfold Lf.nexts Lf.nextsTo
  rw [List.map_eq_nil_iff, List.filter_eq_nil_iff]
  intro i hi hc
  simp only [List.mem_range] at hi
  unfold Lf.can at hc
  rw [bit_st i l.st (by omega) (by omega) (by omega) (by omega), h, Bool.and_eq_true] at hc
  obtain ⟨hc, _⟩ := hc
  obtain rfl | rfl | rfl | rfl | rfl | rfl | rfl | rfl : i = 0 ∨ i = 1 ∨ i = 2 ∨ i = 3 ∨ i = 4 ∨ i = 5 ∨ i = 6 ∨ i = 7 := by omega
  all_goals simp at hc
end Go.Proofs.Ytjabjfkfoenmlaa.Sc
