/- Shares: what is wrong first; the sort of the rests; plainly and by the program. Shares: the closure that compares rests; the stable sort of the places by it; by the program. share.Split: what is left over is no more than the weights; what is added to which part; plainly. And the last loop's world. -/
import Derived.Test.YtnbhneeohkfocaaDoorTo01
import Derived.Test.YtnbhneeohkfocaaDoorTo06
import Derived.Test.YtnbhneeohkfocaaDoorTo03
import Derived.Test.YtnbhneeohkfocaaDoorTo07
import Derived.Shelf.Abstract
namespace Go.Proofs.YtnbhneeohkfocaaDoor.Sc
open Go Go.RowKit Go.ChangeShapes Go.WideShapes Go.ChangeAt
set_option maxRecDepth 100000

theorem neg1_any (n : Int) (w : World) : Calls Tryd.prog 54 #[.int .i64 n] w (RetB w (decide (n < 0))) := by
  go_enter Tryd.func54, Tryd.ntmps54
  go_wp2
  go_ret
  exact ⟨rfl, Below.refl _ _⟩
theorem over1_any (n : Int) (w : World) : Calls Tryd.prog 55 #[.int .i64 n] w (RetB w (decide (1099511627776 < n))) := by
  go_enter Tryd.func55, Tryd.ntmps55
  go_wp2
  go_ret
  exact ⟨rfl, Below.refl _ _⟩
theorem pos1_any (n : Int) (w : World) : Calls Tryd.prog 56 #[.int .i64 n] w (RetB w (decide (0 < n))) := by
  go_enter Tryd.func56, Tryd.ntmps56
  go_wp2
  go_ret
  exact ⟨rfl, Below.refl _ _⟩
def nRow (n : Int) : List Value := [.int .i64 n]
theorem any_dropI {l : List Int} {k : Nat} (h : k < l.length) (f : Int → Bool) : (l.drop k).any f = (f l[k] || (l.drop (k + 1)).any f) := by rw [List.drop_eq_getElem_cons h, List.any_cons]
def IdxI (w : World) (b : Bool) (e : Ending) (w' : World) : Prop := ∃ i : Int, e = .returned (.int .i64 i) ∧ decide (0 ≤ i) = b ∧ Below w.heap.size w w'
set_option maxHeartbeats 4000000 in
theorem indexI_any (f : Int → Bool) (g : Nat) (l : List Int) (v : Value) (w : World) (hs : Sl w 1 v (l.map nRow)) (eg : ∀ args w, (callFunc g args).run Tryd.prog w = .ok (.enter g args) w)
    (hcl : ∀ W (x : Int), Calls Tryd.prog g #[.int .i64 x] W (RetB W (f x))) :
    Calls Tryd.prog 74 #[v, .func (.func g) #[] #[]] w (IdxI w (l.any f)) := by
  obtain ⟨a, c, rfl⟩ : ∃ a c, v = .slice a l.length c := by simpa using hs.shape
  have hll : l.length ≤ 9223372036854775807 := by have := hs.len_le; simp only [List.length_map, maxLen] at this; omega
  have HS := Lib.hid hs
  have HCL := Lib.hid hcl
  clear hs hcl
  go_enter Tryd.func74, Tryd.ntmps74
  go_wp2_with fail
  go_loopw [5, 8] (fun _ i wr => ∃ k : Nat, k ≤ l.length ∧ i = .int .i64 k ∧ l.any f = (l.drop k).any f ∧ Below w.heap.size w wr) (fun _ i _ => l.length - (intOf i).toNat)
  case atStart => exact ⟨0, Nat.zero_le _, rfl, rfl, Below.refl _ _⟩
  case round =>
    obtain ⟨k, hk, rfl, hrel, hbel⟩ := hrel
    have HBEL := Lib.hid hbel
    by_cases hlt : k < l.length
    · obtain ⟨b, off, rfl, -, hb, hc⟩ := HS.out.at (i := k) (by simpa using hlt)
      have d0 := (hbel.cell (p := ⟨b, off + k * 1, none⟩) hb).trans (hc k (nRow l[k]) (by simp [hlt]) 0 _ rfl)
      rw [Nat.mul_one] at d0
      rw [any_dropI hlt] at hrel
      generalize l[k] = x at *
      have HC := Lib.hid (HCL.out wr x)
      have tk : ((k : Nat) : Int) < (l.length : Int) := by omega
      clear hb hc hbel
      generalize hr : f x = r at *
      clear hr
      cases r
      · have HR := Lib.hid hrel
        clear hrel
        go_wp2_with (first
          | (go_at_fn g; refine HC.out.mono ?_; rintro e w2 ⟨rfl, hb2⟩; have HB2 := Lib.hid (HBEL.out.trans (hb2.mono HBEL.out.size)); clear hb2)
          | fail)
        go_roundw
        case rel => exact ⟨k + 1, by omega, by go_num, by rw [HR.out]; rfl, HB2.out⟩
        case measure => (simp [intOf]) <;> omega
      · have HR := Lib.hid hrel
        clear hrel
        go_wp2_with (first
          | (go_at_fn g; refine HC.out.mono ?_; rintro e w2 ⟨rfl, hb2⟩; have HB2 := Lib.hid (HBEL.out.trans (hb2.mono HBEL.out.size)); clear hb2)
          | fail)
        go_ret
        exact ⟨k, rfl, by rw [HR.out]; simp, HB2.out⟩
    · have HE : Hid (l.any f = false) := Lib.hid (by rw [hrel, List.drop_of_length_le (by omega)]; rfl)
      clear hrel hbel hk
      go_wp2_with fail
      go_ret
      exact ⟨-1, rfl, by rw [HE.out]; rfl, HBEL.out⟩
theorem containsI_any (f : Int → Bool) (g : Nat) (l : List Int) (v : Value) (w : World) (hs : Sl w 1 v (l.map nRow)) (eg : ∀ args w, (callFunc g args).run Tryd.prog w = .ok (.enter g args) w)
    (hcl : ∀ W (x : Int), Calls Tryd.prog g #[.int .i64 x] W (RetB W (f x))) :
    Calls Tryd.prog 53 #[v, .func (.func g) #[] #[]] w (RetB w (l.any f)) := by
  have HI := Lib.hid (indexI_any f g l v w hs eg hcl)
  clear hs hcl eg
  go_enter Tryd.func53, Tryd.ntmps53
  go_wp2_with (first
    | ((with_reducible refine HI.out.mono ?_); rintro e w2 ⟨i, rfl, hi, hb2⟩; have HB2 := Lib.hid hb2; have HQ := Lib.hid hi; clear hb2 hi)
    | fail)
  go_ret
  exact ⟨by rw [← HQ.out]; rfl, HB2.out⟩
def wrongS (total : Int) (ws : List Int) : Int :=
  if total < 0 ∨ ws.length = 0 ∨ ws.any (fun n => decide (n < 0)) = true then 1
  else if 1099511627776 < total ∨ 4096 < ws.length ∨ ws.any (fun n => decide (1099511627776 < n)) = true then 3
  else if 0 < total ∧ ws.any (fun n => decide (0 < n)) = false then 4 else 0
set_option maxHeartbeats 4000000 in
theorem wrongS_any (total : Int) (ws : List Int) (v : Value) (w : World) (hs : Sl w 1 v (ws.map nRow)) : Calls Tryd.prog 28 #[.int .i64 total, v] w (Ret w (.int .i64 (wrongS total ws))) := by
  obtain ⟨a, c, rfl⟩ : ∃ a c, v = .slice a ws.length c := by simpa using hs.shape
  have eg1 : ∀ args w, (callFunc 54 args).run Tryd.prog w = .ok (.enter 54 args) w := enters_of Tryd.func54 (by kernel_rfl) rfl
  have eg2 : ∀ args w, (callFunc 55 args).run Tryd.prog w = .ok (.enter 55 args) w := enters_of Tryd.func55 (by kernel_rfl) rfl
  have eg3 : ∀ args w, (callFunc 56 args).run Tryd.prog w = .ok (.enter 56 args) w := enters_of Tryd.func56 (by kernel_rfl) rfl
  have HC1 := Lib.hid (fun W (hW : Below w.heap.size w W) => containsI_any (fun n => decide (n < 0)) 54 ws _ W (hs.below hW (Nat.le_refl _)) eg1 (fun W x => neg1_any x W))
  have HC2 := Lib.hid (fun W (hW : Below w.heap.size w W) => containsI_any (fun n => decide (1099511627776 < n)) 55 ws _ W (hs.below hW (Nat.le_refl _)) eg2 (fun W x => over1_any x W))
  have HC3 := Lib.hid (fun W (hW : Below w.heap.size w W) => containsI_any (fun n => decide (0 < n)) 56 ws _ W (hs.below hW (Nat.le_refl _)) eg3 (fun W x => pos1_any x W))
  have HO1 := Lib.hid (fun W => over1_any total W)
  have hq : wrongS total ws = if total < 0 ∨ ws.length = 0 ∨ ws.any (fun n => decide (n < 0)) = true then 1
    else if 1099511627776 < total ∨ 4096 < ws.length ∨ ws.any (fun n => decide (1099511627776 < n)) = true then 3
    else if 0 < total ∧ ws.any (fun n => decide (0 < n)) = false then 4 else 0 := rfl
  have hll : ws.length ≤ 9223372036854775807 := by have := hs.len_le; simp only [List.length_map, maxLen] at this; omega
  generalize ws.any (fun n => decide (n < 0)) = q1 at *
  generalize ws.any (fun n => decide (1099511627776 < n)) = q2 at *
  generalize ws.any (fun n => decide (0 < n)) = q3 at *
  have HB := Lib.hid (Below.refl w.heap.size w)
  clear hs eg1 eg2 eg3
  by_cases h1 : total < 0
  · have t1 : decide (total < 0) = true := decide_eq_true h1
    rw [if_pos (.inl h1)] at hq
    have HQ := Lib.hid hq
    clear hq h1 HC1 HC2 HC3 HO1
    go_enter Tryd.func28, Tryd.ntmps28
    go_wp2_with fail
    go_ret
    exact ⟨by rw [HQ.out]; rfl, HB.out⟩
  have t1 : decide (total < 0) = false := decide_eq_false h1
  by_cases h2 : ws.length = 0
  · have t2 : ((ws.length : Int) == 0) = true := by simp [h2]
    have t2' : (ws.length == 0) = true := by simp [h2]
    rw [if_pos (.inr (.inl h2))] at hq
    have HQ := Lib.hid hq
    clear hq h1 h2 HC1 HC2 HC3 HO1
    go_enter Tryd.func28, Tryd.ntmps28
    go_wp2_with fail
    go_ret
    exact ⟨by rw [HQ.out]; rfl, HB.out⟩
  have t2 : ((ws.length : Int) == 0) = false := by rw [beq_eq_false_iff_ne]; omega
  have t2' : (ws.length == 0) = false := by simp [h2]
  cases q1
  rotate_left
  · rw [if_pos (.inr (.inr rfl))] at hq
    have HQ := Lib.hid hq
    clear hq h1 h2 HC2 HC3 HO1
    go_enter Tryd.func28, Tryd.ntmps28
    go_wp2_with (first | ((with_reducible refine (HC1.out _ HB.out).mono ?_); rintro e w2 ⟨rfl, hb2⟩; have HB := Lib.hid (HB.out.trans (hb2.mono HB.out.size)); clear hb2) | fail)
    go_ret
    exact ⟨by rw [HQ.out]; rfl, HB.out⟩
  rw [if_neg (by rintro (h | h | h); exact h1 h; exact h2 h; cases h)] at hq
  by_cases h3 : 1099511627776 < total
  · have t3 : decide (1099511627776 < total) = true := decide_eq_true h3
    rw [t3] at HO1
    rw [if_pos (.inl h3)] at hq
    have HQ := Lib.hid hq
    clear hq h1 h2 h3 HC2 HC3
    go_enter Tryd.func28, Tryd.ntmps28
    go_wp2_with (first | ((with_reducible refine (HC1.out _ HB.out).mono ?_); rintro e w2 ⟨rfl, hb2⟩; have HB := Lib.hid (HB.out.trans (hb2.mono HB.out.size)); clear hb2) | ((with_reducible refine (HO1.out _).mono ?_); rintro e w2 ⟨rfl, hb2⟩; have HB := Lib.hid (HB.out.trans (hb2.mono HB.out.size)); clear hb2) | fail)
    go_ret
    exact ⟨by rw [HQ.out]; rfl, HB.out⟩
  have t3 : decide (1099511627776 < total) = false := decide_eq_false h3
  rw [t3] at HO1
  by_cases h4 : 4096 < ws.length
  · have t4 : decide ((4096 : Int) < (ws.length : Int)) = true := decide_eq_true (by omega)
    have t4' : decide (4096 < ws.length) = true := decide_eq_true h4
    rw [if_pos (.inr (.inl h4))] at hq
    have HQ := Lib.hid hq
    clear hq h1 h2 h3 h4 HC2 HC3
    go_enter Tryd.func28, Tryd.ntmps28
    go_wp2_with (first | ((with_reducible refine (HC1.out _ HB.out).mono ?_); rintro e w2 ⟨rfl, hb2⟩; have HB := Lib.hid (HB.out.trans (hb2.mono HB.out.size)); clear hb2) | ((with_reducible refine (HO1.out _).mono ?_); rintro e w2 ⟨rfl, hb2⟩; have HB := Lib.hid (HB.out.trans (hb2.mono HB.out.size)); clear hb2) | fail)
    go_ret
    exact ⟨by rw [HQ.out]; rfl, HB.out⟩
  have t4 : decide ((4096 : Int) < (ws.length : Int)) = false := decide_eq_false (by omega)
  have t4' : decide (4096 < ws.length) = false := decide_eq_false h4
  cases q2
  rotate_left
  · rw [if_pos (.inr (.inr rfl))] at hq
    have HQ := Lib.hid hq
    clear hq h1 h2 h3 h4 HC3
    go_enter Tryd.func28, Tryd.ntmps28
    go_wp2_with (first | ((with_reducible refine (HC1.out _ HB.out).mono ?_); rintro e w2 ⟨rfl, hb2⟩; have HB := Lib.hid (HB.out.trans (hb2.mono HB.out.size)); clear hb2) | ((with_reducible refine (HO1.out _).mono ?_); rintro e w2 ⟨rfl, hb2⟩; have HB := Lib.hid (HB.out.trans (hb2.mono HB.out.size)); clear hb2) | ((with_reducible refine (HC2.out _ HB.out).mono ?_); rintro e w2 ⟨rfl, hb2⟩; have HB := Lib.hid (HB.out.trans (hb2.mono HB.out.size)); clear hb2) | fail)
    go_ret
    exact ⟨by rw [HQ.out]; rfl, HB.out⟩
  rw [if_neg (by rintro (h | h | h); exact h3 h; exact h4 h; cases h)] at hq
  by_cases h5 : 0 < total
  rotate_left
  · have t5 : decide (0 < total) = false := decide_eq_false h5
    rw [if_neg (fun h => h5 h.1)] at hq
    have HQ := Lib.hid hq
    clear hq h1 h2 h3 h4 h5 HC3
    go_enter Tryd.func28, Tryd.ntmps28
    go_wp2_with (first | ((with_reducible refine (HC1.out _ HB.out).mono ?_); rintro e w2 ⟨rfl, hb2⟩; have HB := Lib.hid (HB.out.trans (hb2.mono HB.out.size)); clear hb2) | ((with_reducible refine (HO1.out _).mono ?_); rintro e w2 ⟨rfl, hb2⟩; have HB := Lib.hid (HB.out.trans (hb2.mono HB.out.size)); clear hb2) | ((with_reducible refine (HC2.out _ HB.out).mono ?_); rintro e w2 ⟨rfl, hb2⟩; have HB := Lib.hid (HB.out.trans (hb2.mono HB.out.size)); clear hb2) | fail)
    go_ret
    exact ⟨by rw [HQ.out]; rfl, HB.out⟩
  have t5 : decide (0 < total) = true := decide_eq_true h5
  cases q3
  · rw [if_pos ⟨h5, rfl⟩] at hq
    have HQ := Lib.hid hq
    clear hq h1 h2 h3 h4 h5
    go_enter Tryd.func28, Tryd.ntmps28
    go_wp2_with (first | ((with_reducible refine (HC1.out _ HB.out).mono ?_); rintro e w2 ⟨rfl, hb2⟩; have HB := Lib.hid (HB.out.trans (hb2.mono HB.out.size)); clear hb2) | ((with_reducible refine (HO1.out _).mono ?_); rintro e w2 ⟨rfl, hb2⟩; have HB := Lib.hid (HB.out.trans (hb2.mono HB.out.size)); clear hb2) | ((with_reducible refine (HC2.out _ HB.out).mono ?_); rintro e w2 ⟨rfl, hb2⟩; have HB := Lib.hid (HB.out.trans (hb2.mono HB.out.size)); clear hb2) | ((with_reducible refine (HC3.out _ HB.out).mono ?_); rintro e w2 ⟨rfl, hb2⟩; have HB := Lib.hid (HB.out.trans (hb2.mono HB.out.size)); clear hb2) | fail)
    go_ret
    exact ⟨by rw [HQ.out]; rfl, HB.out⟩
  · rw [if_neg (fun h => by cases h.2)] at hq
    have HQ := Lib.hid hq
    clear hq h1 h2 h3 h4 h5
    go_enter Tryd.func28, Tryd.ntmps28
    go_wp2_with (first | ((with_reducible refine (HC1.out _ HB.out).mono ?_); rintro e w2 ⟨rfl, hb2⟩; have HB := Lib.hid (HB.out.trans (hb2.mono HB.out.size)); clear hb2) | ((with_reducible refine (HO1.out _).mono ?_); rintro e w2 ⟨rfl, hb2⟩; have HB := Lib.hid (HB.out.trans (hb2.mono HB.out.size)); clear hb2) | ((with_reducible refine (HC2.out _ HB.out).mono ?_); rintro e w2 ⟨rfl, hb2⟩; have HB := Lib.hid (HB.out.trans (hb2.mono HB.out.size)); clear hb2) | ((with_reducible refine (HC3.out _ HB.out).mono ?_); rintro e w2 ⟨rfl, hb2⟩; have HB := Lib.hid (HB.out.trans (hb2.mono HB.out.size)); clear hb2) | fail)
    go_ret
    exact ⟨by rw [HQ.out]; rfl, HB.out⟩
end Go.Proofs.YtnbhneeohkfocaaDoor.Sc
namespace Go.Proofs.YtnbhneeohkfocaaDoor.Sc
open Go Go.RowKit Go.Sort
set_option maxRecDepth 100000

section
variable {α : Type} [Inhabited α] (lt : α → α → Bool)
def insB4 : List α → α → List α
  | [], x => [x]
  | a :: r, x => if lt x a then a :: insB4 r x else x :: a :: r
def insE4 (l : List α) (x : α) : List α := (insB4 lt l.reverse x).reverse
omit [Inhabited α] in
theorem insE_snoc4 (l : List α) (a x : α) : insE4 lt (l ++ [a]) x = if lt x a then insE4 lt l x ++ [a] else l ++ [a] ++ [x] := by
  unfold insE4
  rw [List.reverse_append, List.reverse_singleton, List.singleton_append, insB4]
  split
  · rw [List.reverse_cons]
  · rw [List.reverse_cons, List.reverse_cons, List.reverse_reverse]
theorem at_mid4 (P rest : List α) (a : α) : ((P ++ a :: rest).toArray)[P.length]! = a := by
  rw [getElem!_pos _ _ (by simp)]
  simp
theorem at_next4 (P rest : List α) (a x : α) : ((P ++ a :: x :: rest).toArray)[P.length + 1]! = x := by
  simp
theorem swp_mid4 (P rest : List α) (a x : α) : swp (P ++ a :: x :: rest).toArray (P.length + 1) P.length = (P ++ x :: a :: rest).toArray := by
  unfold swp
  rw [at_mid4, at_next4]
  apply Array.ext'
  simp
theorem insInner_mid4 (X : List α) (P : List α) : ∀ (x : α) (rest : List α), insInner lt X.length (X.length + P.length) (X ++ P ++ x :: rest).toArray = (X ++ insE4 lt P x ++ rest).toArray := by
  induction h : P.length generalizing P with
  | zero =>
    intro x rest
    obtain rfl := List.length_eq_zero_iff.1 h
    have e : X ++ [] ++ x :: rest = X ++ insE4 lt [] x ++ rest := by simp [insE4, insB4]
    rw [Nat.add_zero, e]
    generalize (X ++ insE4 lt [] x ++ rest).toArray = d
    cases hx : X.length with
    | zero => rfl
    | succ n =>
      rw [insInner]
      simp
  | succ n ih =>
    intro x rest
    obtain ⟨P', a, rfl⟩ : ∃ P' a, P = P' ++ [a] := ⟨P.dropLast, P.getLast (by intro e; rw [e] at h; cases h), (List.dropLast_concat_getLast _).symm⟩
    have hl : P'.length = n := by simpa using h
    subst hl
    have e : X ++ (P' ++ [a]) ++ x :: rest = (X ++ P') ++ a :: x :: rest := by simp
    have hn : X.length + (P'.length + 1) = (X ++ P').length + 1 := by simp; omega
    rw [e, hn, insInner, at_next4, at_mid4, insE_snoc4]
    cases hx : lt x a
    · simp
    · have h1 : (decide ((X ++ P').length + 1 > X.length) && true) = true := by simp; omega
      rw [h1, if_pos rfl, swp_mid4]
      have h2 := ih P' rfl x (a :: rest)
      rw [show X.length + P'.length = (X ++ P').length by simp] at h2
      rw [h2]
      simp
omit [Inhabited α] in
theorem insE_len4 (P : List α) (x : α) : (insE4 lt P x).length = P.length + 1 := by
  unfold insE4
  rw [List.length_reverse]
  have : ∀ l : List α, (insB4 lt l x).length = l.length + 1 := by
    intro l
    induction l with
    | nil => rfl
    | cons b q ih => rw [insB4]; split <;> simp [ih]
  rw [this, List.length_reverse]
theorem insOuter_mid4 (X S : List α) : ∀ (rest P : List α), insOuter lt X.length (X.length + P.length + rest.length) (X.length + P.length) (X ++ P ++ rest ++ S).toArray = (X ++ rest.foldl (insE4 lt) P ++ S).toArray
  | [], P => by
    rw [insOuter, if_neg (by simp)]
    simp
  | x :: r, P => by
    have e : X ++ P ++ x :: r ++ S = X ++ P ++ x :: (r ++ S) := by simp
    rw [insOuter, if_pos (by simp), e, insInner_mid4]
    have h2 := insOuter_mid4 X S r (insE4 lt P x)
    rw [insE_len4] at h2
    rw [List.foldl_cons, ← h2, List.length_cons, ← List.append_assoc (X ++ insE4 lt P x) r S]
    congr 1 <;> omega
theorem insertion_mid4 (X A S : List α) : insertionSort lt (X ++ A ++ S).toArray X.length (X.length + A.length) = (X ++ A.foldl (insE4 lt) [] ++ S).toArray := by
  cases A with
  | nil => rw [insertionSort, insOuter, if_neg (by simp)]; simp
  | cons x r =>
    have h := insOuter_mid4 lt X S r [x]
    rw [insertionSort]
    have e : X.length + ([x] : List α).length + r.length = X.length + (x :: r).length := by simp; omega
    rw [e] at h
    have e2 : X ++ [x] ++ r ++ S = X ++ x :: r ++ S := by simp
    rw [e2] at h
    exact h

omit [Inhabited α] in
/-- It is a row of the same elements, in order. -/
theorem insB_perm4 (x : α) : ∀ l : List α, (insB4 lt l x).Perm (x :: l)
  | [] => List.Perm.refl _
  | a :: r => by
    rw [insB4]
    split
    · exact ((insB_perm4 x r).cons a).trans (List.Perm.swap x a r)
    · exact List.Perm.refl _
omit [Inhabited α] in
theorem insE_perm4 (x : α) (l : List α) : (insE4 lt l x).Perm (x :: l) := by
  unfold insE4
  exact (List.reverse_perm _).trans ((insB_perm4 lt x l.reverse).trans ((List.reverse_perm l).cons x))
omit [Inhabited α] in
theorem fold_perm4 : ∀ (r P : List α), (r.foldl (insE4 lt) P).Perm (r ++ P)
  | [], P => List.Perm.refl _
  | x :: r, P => by
    rw [List.foldl_cons]
    exact (fold_perm4 r (insE4 lt P x)).trans (((insE_perm4 lt x P).append_left r).trans List.perm_middle)
end
end Go.Proofs.YtnbhneeohkfocaaDoor.Sc
namespace Go.Proofs.YtnbhneeohkfocaaDoor.Sc
open Go Go.RowKit Go.ChangeShapes Go.WideShapes Go.ChangeAt Go.Sort Go.Shelf
set_option maxRecDepth 100000

theorem nanU_any (a : Int) (w : World) : Calls Tryd.prog 59 #[.int .u64 a] w (fun e w' => e = .returned (.bool false) ∧ w' = w) := by
  have t1 : (a != a) = false := by simp
  go_enter Tryd.func59, Tryd.ntmps59
  go_wp2
  go_ret
  exact ⟨by simp, rfl⟩
def cmpU (a b : Int) : Int := if a < b then -1 else if b < a then 1 else 0
set_option maxHeartbeats 2000000 in
theorem compareU_any (a b : Int) (w : World) : Calls Tryd.prog 33 #[.int .u64 a, .int .u64 b] w (fun e w' => e = .returned (.int .i64 (cmpU a b)) ∧ w' = w) := by
  have HN := Lib.hid (fun a W => nanU_any a W)
  by_cases h1 : a < b
  · have t1 : decide (a < b) = true := decide_eq_true h1
    have HQ : Hid (cmpU a b = -1) := Lib.hid (if_pos h1)
    clear h1
    go_enter Tryd.func33, Tryd.ntmps33
    go_wp2_with (first | ((with_reducible refine (HN.out _ _).mono ?_); rintro e w2 ⟨rfl, rfl⟩) | fail)
    go_ret
    exact ⟨by rw [HQ.out]; rfl, rfl⟩
  · have t1 : decide (a < b) = false := decide_eq_false h1
    by_cases h2 : b < a
    · have t2 : (a == b) = false := by simp; omega
      have t3 : decide (b < a) = true := decide_eq_true h2
      have HQ : Hid (cmpU a b = 1) := Lib.hid (by rw [cmpU, if_neg h1, if_pos h2])
      clear h1 h2
      go_enter Tryd.func33, Tryd.ntmps33
      go_wp2_with (first | ((with_reducible refine (HN.out _ _).mono ?_); rintro e w2 ⟨rfl, rfl⟩) | fail)
      go_ret
      exact ⟨by rw [HQ.out]; rfl, rfl⟩
    · have t2 : decide (b < a) = false := decide_eq_false h2
      have HQ : Hid (cmpU a b = 0) := Lib.hid (by rw [cmpU, if_neg h1, if_neg h2])
      clear h1 h2
      go_enter Tryd.func33, Tryd.ntmps33
      go_wp2_with (first | ((with_reducible refine (HN.out _ _).mono ?_); rintro e w2 ⟨rfl, rfl⟩) | fail)
      go_ret
      exact ⟨by rw [HQ.out]; rfl, rfl⟩

set_option maxHeartbeats 4000000 in
theorem byRest_any (rs : List Int) (i j : Nat) (hi : i < rs.length) (hj : j < rs.length) (b2 r : Nat) (W : World) (h2 : W.cell? ⟨b2, 0, none⟩ = some (.slice (some ⟨r, 0, none⟩) rs.length rs.length)) (hl2 : b2 < W.heap.size)
    (hc : ∀ k (hk : k < rs.length), W.cell? ⟨r, k, none⟩ = some (.int .u64 rs[k])) (hr : r < W.heap.size) :
    Calls Tryd.prog 32 #[.int .i64 i, .int .i64 j, .pointer (some ⟨b2, 0, none⟩)] W (fun e w' => e = .returned (.int .i64 (cmpU rs[j] rs[i])) ∧ ∃ q, w' = W.drewN q) := by
  have d1 := hc i hi
  have d2 := hc j hj
  generalize rs[i] = x at *
  generalize rs[j] = y at *
  clear hc
  generalize rs.length = n at *
  have HC := Lib.hid (fun W => compareU_any y x W)
  have ti : ((i : Nat) : Int) < (n : Int) := by omega
  have tj : ((j : Nat) : Int) < (n : Int) := by omega
  go_enter Tryd.func32, Tryd.ntmps32
  have h2 : W.drew.cell? ⟨b2, 0, none⟩ = some (.slice (some ⟨r, 0, none⟩) n n) := h2
  have d1 : W.drew.cell? ⟨r, i, none⟩ = some (.int .u64 x) := d1
  have d2 : W.drew.cell? ⟨r, j, none⟩ = some (.int .u64 y) := d2
  have hl2 : b2 < W.drew.heap.size := hl2
  have hr : r < W.drew.heap.size := hr
  go_wp2_with fail
  refine Stg.region_lit (fun
    | 0 => .slice (some ⟨r, 0, none⟩) n n
    | 1 => .int .i64 (j : Int)
    | 2 => .pointer (some ⟨r, j, none⟩)
    | 3 => .int .u64 y
    | 4 => .slice (some ⟨r, 0, none⟩) n n
    | 5 => .int .i64 (i : Int)
    | 6 => .pointer (some ⟨r, i, none⟩)
    | 7 => .int .u64 x
    | 8 => .int .i64 (cmpU y x)
    | 9 => .int .i64 (cmpU y x)
    | _ => undef) [] (by kernel_rfl) (by kernel_rfl) (by kernel_rfl) ?_ ?_
  · refine ⟨?_, ?_, ?_, ?_, ?_, ?_, ?_, ?_, ?_, ?_, trivial⟩
    · refine Stg.owes_pure rfl (by kernel_rfl) fun ρ L wo hs' hc' => ?_
      have h2 : ρ (.tmp 2) = .pointer (some ⟨b2, 0, none⟩) := hs'.old' 2 (by kernel_rfl)
      have e0 : wo = W.drew := hs'.world
      subst e0
      go_simp
    · refine Stg.owes_pure rfl (by kernel_rfl) fun ρ L wo hs' hc' => ?_
      have h1 : ρ (.tmp 1) = .int .i64 (j : Int) := hs'.old' 1 (by kernel_rfl)
      exact Any.ok_move ⟨h1, rfl⟩
    · refine Stg.owes_pure rfl (by kernel_rfl) fun ρ L wo hs' hc' => ?_
      have h6 : ρ (.tmp 6) = .slice (some ⟨r, 0, none⟩) n n := hs'.new' 6 0 (by kernel_rfl)
      have h7 : ρ (.tmp 7) = .int .i64 (j : Int) := hs'.new' 7 1 (by kernel_rfl)
      have e0 : wo = W.drew := hs'.world
      subst e0
      go_simp
    · refine Stg.owes_pure rfl (by kernel_rfl) fun ρ L wo hs' hc' => ?_
      have h8 : ρ (.tmp 8) = .pointer (some ⟨r, j, none⟩) := hs'.new' 8 2 (by kernel_rfl)
      have e0 : wo = W.drew := hs'.world
      subst e0
      go_simp
    · refine Stg.owes_pure rfl (by kernel_rfl) fun ρ L wo hs' hc' => ?_
      have h2 : ρ (.tmp 2) = .pointer (some ⟨b2, 0, none⟩) := hs'.old' 2 (by kernel_rfl)
      have e0 : wo = W.drew := hs'.world
      subst e0
      go_simp
    · refine Stg.owes_pure rfl (by kernel_rfl) fun ρ L wo hs' hc' => ?_
      have h0 : ρ (.tmp 0) = .int .i64 (i : Int) := hs'.old' 0 (by kernel_rfl)
      exact Any.ok_move ⟨h0, rfl⟩
    · refine Stg.owes_pure rfl (by kernel_rfl) fun ρ L wo hs' hc' => ?_
      have h10 : ρ (.tmp 10) = .slice (some ⟨r, 0, none⟩) n n := hs'.new' 10 4 (by kernel_rfl)
      have h11 : ρ (.tmp 11) = .int .i64 (i : Int) := hs'.new' 11 5 (by kernel_rfl)
      have e0 : wo = W.drew := hs'.world
      subst e0
      go_simp
    · refine Stg.owes_pure rfl (by kernel_rfl) fun ρ L wo hs' hc' => ?_
      have h12 : ρ (.tmp 12) = .pointer (some ⟨r, i, none⟩) := hs'.new' 12 6 (by kernel_rfl)
      have e0 : wo = W.drew := hs'.world
      subst e0
      go_simp
    · refine Stg.owes_pure rfl (by kernel_rfl) fun ρ L wo hs' hc' => ?_
      have h9 : ρ (.tmp 9) = .int .u64 y := hs'.new' 9 3 (by kernel_rfl)
      have h13 : ρ (.tmp 13) = .int .u64 x := hs'.new' 13 7 (by kernel_rfl)
      have hf := hs'.func 33
      go_simp
      exact (HC.out wo).mono fun e w' ⟨he, hw⟩ => ⟨_, he, rfl, hw⟩
    · refine Stg.owes_pure rfl (by kernel_rfl) fun ρ L wo hs' hc' => ?_
      have h14 : ρ (.tmp 14) = .int .i64 (cmpU y x) := hs'.new' 14 8 (by kernel_rfl)
      exact Any.ok_assign ⟨h14, rfl⟩
  intro L w3 hL hst
  have HW : Hid (w3 = W.drew) := Lib.hid hst
  clear hL hst
  simp only [Any.putAll]
  go_frame
  go_wp2_with fail
  go_ret
  exact ⟨rfl, 1, HW.out⟩
end Go.Proofs.YtnbhneeohkfocaaDoor.Sc
namespace Go.Proofs.YtnbhneeohkfocaaDoor.Sc
open Go Go.RowKit Go.ChangeShapes Go.WideShapes Go.ChangeAt Go.Sort Go.Shelf
set_option maxRecDepth 100000

def posE {m : Nat} (x : Fin (m + 1)) : Value := .int .i64 ((x.val : Nat) : Int)
def cmpR {m : Nat} (rs : List Int) (x y : Fin (m + 1)) : Int := cmpU (rs.getD y.val 0) (rs.getD x.val 0)
/-- The rests, where the closure finds them. -/
structure RestsAt (w : World) (b2 r : Nat) (rs : List Int) : Prop where
  var : w.cell? ⟨b2, 0, none⟩ = some (.slice (some ⟨r, 0, none⟩) rs.length rs.length)
  cells : ∀ k (hk : k < rs.length), w.cell? ⟨r, k, none⟩ = some (.int .u64 rs[k])
  lt2 : b2 < w.heap.size
  lt : r < w.heap.size
theorem sortWorld1_block {m n : Nat} {w : World} {g b : Nat} {dk : Array (Fin (m + 1))} {os : Array Obj} (hb : b < w.heap.size) (hne : b ≠ g) : (sortWorld posE w g 0 n dk os).heap[b]? = w.heap[b]? := by
  unfold sortWorld
  rw [Go.Sort.heap_grow_old _ _ (by rw [Go.Sort.size_putRow]; exact hb)]
  have : ¬ g = b := fun e => hne e.symm
  simp only [Go.Sort.putRow, Go.Sort.mapBlock, Go.Sort.heap_ahead, Array.getElem?_modify, this, if_false]
theorem sortWorld1_size {m n : Nat} {w : World} {g : Nat} {dk : Array (Fin (m + 1))} {os : Array Obj} : w.heap.size ≤ (sortWorld posE w g 0 n dk os).heap.size := by
  unfold sortWorld
  simp [Go.Sort.grow, Go.Sort.size_putRow, Go.Sort.heap_ahead]
def SrtI {m : Nat} (w : World) (g : Nat) (D : List (Fin (m + 1))) (e : Ending) (w' : World) : Prop := e = .returned (.tuple #[]) ∧ ∃ q, w' = (putRow posE w g 0 D.toArray).drewN q
theorem insInts_any {m : Nat} (rs : List Int) (hrs : rs.length = m + 1) (D : List (Fin (m + 1))) (g cap b2 r : Nat) (w : World) (hH : Holds posE w g 0 D.toArray) (hl : D.length ≤ 1000000) (hr : RestsAt w b2 r rs) (h2 : b2 ≠ g) (h3 : r ≠ g) :
    Calls Tryd.prog 76 #[.slice (some ⟨g, 0, none⟩) D.length cap, .int .i64 (0 : Nat), .int .i64 D.length, .func (.func 32) #[] #[.pointer (some ⟨b2, 0, none⟩)]] w
      (SrtI w g (D.foldl (insE4 (ltOf (cmpR rs))) [])) := by
  have eg : ∀ args w, (callFunc 32 args).run Tryd.prog w = .ok (.enter 32 args) w := enters_of Tryd.func32 (by kernel_rfl) rfl
  have hcl : CmpReads Tryd.prog 32 #[.pointer (some ⟨b2, 0, none⟩)] posE (cmpR rs) g 0 D.toArray.size w := fun n os dk hdk x y => by
    have hb2 := sortWorld1_block (n := n) (dk := dk) (os := os) hr.lt2 h2
    have hb3 := sortWorld1_block (n := n) (dk := dk) (os := os) hr.lt h3
    have hx : x.val < rs.length := by rw [hrs]; exact x.isLt
    have hy : y.val < rs.length := by rw [hrs]; exact y.isLt
    have h := byRest_any rs x.val y.val hx hy b2 r (sortWorld posE w g 0 n dk os) (by rw [World.cell?_of_block hb2]; exact hr.var) (Nat.lt_of_lt_of_le hr.lt2 sortWorld1_size)
      (fun k hk => by rw [World.cell?_of_block hb3]; exact hr.cells k hk) (Nat.lt_of_lt_of_le hr.lt sortWorld1_size)
    have e : cmpR rs x y = cmpU rs[y.val] rs[x.val] := by
      unfold cmpR
      rw [List.getD_eq_getElem?_getD, List.getD_eq_getElem?_getD, List.getElem?_eq_getElem hx, List.getElem?_eq_getElem hy]
      rfl
    rw [e]
    exact h
  have hcon := Tryd.insertionSortCmpFunc_one posE (fun _ => rfl) (cmpR rs) 32 #[.pointer (some ⟨b2, 0, none⟩)] g 0 cap 0 D.length D.toArray w eg hcl hH (Nat.zero_le _) (by simp) (by simp; omega)
  have hsz : D.toArray.size = D.length := by simp
  rw [hsz] at hcon
  refine hcon.mono ?_
  rintro e w' ⟨rfl, q, rfl⟩
  have hmid := insertion_mid4 (ltOf (cmpR rs)) [] D []
  simp only [List.nil_append, List.append_nil, List.length_nil, Nat.zero_add] at hmid
  rw [hmid]
  exact ⟨rfl, q, rfl⟩
end Go.Proofs.YtnbhneeohkfocaaDoor.Sc
namespace Go.Proofs.YtnbhneeohkfocaaDoor.Sc
open Go Go.RowKit Go.ChangeShapes Go.WideShapes Go.ChangeAt Go.Sort Go.Shelf
set_option maxRecDepth 100000

set_option maxHeartbeats 4000000 in
theorem stableI_any {m : Nat} (rs : List Int) (hrs : rs.length = m + 1) (D : List (Fin (m + 1))) (g cap b2 r : Nat) (w : World) (hH : Holds posE w g 0 D.toArray) (hl : D.length < 20) (hr : RestsAt w b2 r rs) (h2 : b2 ≠ g) (h3 : r ≠ g) :
    Calls Tryd.prog 58 #[.slice (some ⟨g, 0, none⟩) D.length cap, .int .i64 D.length, .func (.func 32) #[] #[.pointer (some ⟨b2, 0, none⟩)]] w (SrtI w g (D.foldl (insE4 (ltOf (cmpR rs))) [])) := by
  have HI := Lib.hid (insInts_any rs hrs D g cap b2 r w hH (by omega) hr h2 h3)
  have t1 : decide ((20 : Int) ≤ (D.length : Int)) = false := decide_eq_false (by omega)
  have t2 : decide (20 ≤ D.length) = false := decide_eq_false (by omega)
  have t3 : decide ((20 : Int) < (D.length : Int)) = false := decide_eq_false (by omega)
  have t4 : decide (20 < D.length) = false := decide_eq_false (by omega)
  generalize D.foldl (insE4 (ltOf (cmpR rs))) [] = E at *
  clear hH hr h2 h3 hrs
  go_enter Tryd.func58, Tryd.ntmps58
  go_wp2_with fail
  refine wp_loop_rounds 1 ?_
  rw [rounds_succ]
  go_wp2_with (first
    | (refine HI.out.mono ?_; rintro e w2 ⟨rfl, ho2⟩; have HO2 := Lib.hid ho2; clear ho2)
    | fail)
  refine wp_loop_rounds 1 ?_
  rw [rounds_succ]
  go_wp2_with fail
  go_end0
  exact ⟨rfl, HO2.out⟩
theorem sortStableI_any {m : Nat} (rs : List Int) (hrs : rs.length = m + 1) (D : List (Fin (m + 1))) (g cap b2 r : Nat) (w : World) (hH : Holds posE w g 0 D.toArray) (hl : D.length < 20) (hr : RestsAt w b2 r rs) (h2 : b2 ≠ g) (h3 : r ≠ g) :
    Calls Tryd.prog 31 #[.slice (some ⟨g, 0, none⟩) D.length cap, .func (.func 32) #[] #[.pointer (some ⟨b2, 0, none⟩)]] w (SrtI w g (D.foldl (insE4 (ltOf (cmpR rs))) [])) := by
  have HS := Lib.hid (stableI_any rs hrs D g cap b2 r w hH hl hr h2 h3)
  generalize D.foldl (insE4 (ltOf (cmpR rs))) [] = E at *
  have hll : D.length < 20 := hl
  clear hH hr h2 h3 hrs hl
  go_enter Tryd.func31, Tryd.ntmps31
  go_wp2_with (first
    | ((with_reducible refine HS.out.mono ?_); rintro e w2 ⟨rfl, ho2⟩; have HO2 := Lib.hid ho2; clear ho2)
    | fail)
  go_end0
  exact ⟨rfl, HO2.out⟩
end Go.Proofs.YtnbhneeohkfocaaDoor.Sc
namespace Go.Proofs.YtnbhneeohkfocaaDoor.Sc
open Go Go.RowKit Go.ChangeShapes Go.WideShapes Go.ChangeAt Go.Sort Go.Shelf
set_option maxRecDepth 100000

def sumI : List Int → Int
  | [] => 0
  | a :: r => a + sumI r
theorem sumI_take {l : List Int} {k : Nat} (h : k < l.length) : sumI (l.take (k + 1)) = sumI (l.take k) + l[k] := by
  induction l generalizing k with
  | nil => simp at h
  | cons a r ih =>
    cases k with
    | zero => simp [sumI]
    | succ k => simp only [List.take_succ_cons, sumI, List.getElem_cons_succ]; rw [ih (by simpa using h)]; omega
theorem sumI_bd {l : List Int} (h : ∀ x ∈ l, 0 ≤ x ∧ x ≤ 1099511627776) : 0 ≤ sumI l ∧ sumI l ≤ 1099511627776 * l.length := by
  induction l with
  | nil => simp [sumI]
  | cons a r ih =>
    have h1 := h a (by simp)
    have h2 := ih fun x hx => h x (List.mem_cons_of_mem _ hx)
    simp only [sumI, List.length_cons]
    omega
def qV (total : Int) (ws : List Int) (j : Nat) : Int := total * ws.getD j 0 / sumI ws
def rV (total : Int) (ws : List Int) (j : Nat) : Int := total * ws.getD j 0 % sumI ws
def sumQ (q : Nat → Int) : Nat → Int
  | 0 => 0
  | k + 1 => sumQ q k + q k
theorem getD_lt {l : List Int} {k : Nat} (h : k < l.length) : l.getD k 0 = l[k] := by rw [List.getD_eq_getElem?_getD, List.getElem?_eq_getElem h]; rfl
theorem left_step (T : Int) (ws : List Int) (hS : 0 < sumI ws) : ∀ k, k ≤ ws.length → sumI ws * sumQ (qV T ws) k ≤ T * sumI (ws.take k) ∧ T * sumI (ws.take k) ≤ sumI ws * (sumQ (qV T ws) k + k)
  | 0, _ => by simp [sumQ, sumI]
  | k + 1, h => by
    obtain ⟨h1, h2⟩ := left_step T ws hS k (by omega)
    rw [sumI_take (by omega), sumQ, qV, getD_lt (by omega)]
    generalize ws[k] = x
    have e1 := Int.emod_add_mul_ediv (T * x) (sumI ws)
    have e2 := Int.emod_nonneg (T * x) (Int.ne_of_gt hS)
    have e3 := Int.emod_lt_of_pos (T * x) hS
    rw [Int.mul_add] at h2
    rw [Int.mul_add T, Int.mul_add, Int.mul_add, Int.mul_add]
    have e4 : sumI ws * ((k + 1 : Nat) : Int) = sumI ws * k + sumI ws := by rw [Int.natCast_add, Int.mul_add]; simp
    rw [e4]
    generalize T * x % sumI ws = a at *
    generalize sumI ws * (T * x / sumI ws) = b at *
    generalize T * x = c at *
    generalize sumI ws * (k : Int) = d at *
    generalize T * sumI (ws.take k) = e at *
    generalize sumI ws * sumQ (qV T ws) k = f at *
    omega
theorem left_bd {T : Int} {ws : List Int} (hS : 0 < sumI ws) : 0 ≤ T - sumQ (qV T ws) ws.length ∧ T - sumQ (qV T ws) ws.length ≤ ws.length := by
  obtain ⟨h1, h2⟩ := left_step T ws hS ws.length (Nat.le_refl _)
  rw [List.take_length, Int.mul_comm T] at h1 h2
  have h3 := Int.le_of_mul_le_mul_left h1 hS
  have h4 := Int.le_of_mul_le_mul_left h2 hS
  omega
def restL (T : Int) (ws : List Int) : List Int := (List.range ws.length).map (rV T ws)
def ordF (m : Nat) (rs : List Int) : List (Fin (m + 1)) := (List.finRange (m + 1)).foldl (insE4 (ltOf (cmpR rs))) []
theorem ordF_perm (m : Nat) (rs : List Int) : (ordF m rs).Perm (List.finRange (m + 1)) := by
  have := fold_perm4 (ltOf (cmpR rs)) (List.finRange (m + 1)) []
  rwa [List.append_nil] at this
theorem ordF_len (m : Nat) (rs : List Int) : (ordF m rs).length = m + 1 := by rw [(ordF_perm m rs).length_eq, List.length_finRange]
theorem ordF_nodup (m : Nat) (rs : List Int) : (ordF m rs).Nodup := (ordF_perm m rs).nodup_iff.2 (List.nodup_finRange _)
def ordN (n : Nat) (rs : List Int) : List Nat := match n with | 0 => [] | m + 1 => (ordF m rs).map Fin.val
def bumpV (q : Nat → Int) (E : List Nat) (j : Nat) : Int := q j + if j ∈ E then 1 else 0
def splitS (T : Int) (ws : List Int) : List Int := (List.range ws.length).map (bumpV (qV T ws) ((ordN ws.length (restL T ws)).take (T - sumQ (qV T ws) ws.length).toNat))
theorem nodup_map_val {m : Nat} {E : List (Fin (m + 1))} (h : E.Nodup) : (E.map Fin.val).Nodup := List.Pairwise.map _ (fun _ _ hab e => hab (Fin.ext e)) h
theorem bump_step {q : Nat → Int} {E : List Nat} (h : E.Nodup) {k : Nat} (hk : k < E.length) (j : Nat) : bumpV q (E.take (k + 1)) j = if j = E[k] then bumpV q (E.take k) j + 1 else bumpV q (E.take k) j := by
  have e : E.take (k + 1) = E.take k ++ [E[k]] := List.take_succ_eq_append_getElem hk
  have hm : ∀ x, x ∈ E.take (k + 1) ↔ x ∈ E.take k ∨ x = E[k] := fun x => by rw [e, List.mem_append, List.mem_singleton]
  unfold bumpV
  by_cases h1 : j = E[k]
  · have hn : j ∉ E.take k := by
      have h2 : (E.take (k + 1)).Nodup := h.sublist (List.take_sublist _ _)
      rw [e, List.nodup_append] at h2
      intro h3
      exact h2.2.2 j h3 E[k] (List.mem_singleton.2 rfl) h1
    rw [if_pos h1, if_neg hn, if_pos ((hm j).2 (.inr h1))]
    omega
  · rw [if_neg h1]
    by_cases h2 : j ∈ E.take k
    · rw [if_pos h2, if_pos ((hm j).2 (.inl h2))]
    · rw [if_neg h2, if_neg (fun h3 => ((hm j).1 h3).elim h2 h1)]
/-- The world of the last loop: the parts, and the places in order. -/
structure Sp5 {m : Nat} (w wr : World) (p g n : Nat) (P : Array Value) (E : List (Fin (m + 1))) : Prop where
  below : Below w.heap.size w wr
  hp : wr.heap[p]? = some (.cells P 2 (0, 0))
  hg : ∀ j (hj : j < E.length), wr.cell? ⟨g, j, none⟩ = some (posE E[j])
  lp : w.heap.size ≤ p
  pg : p < g
  sp : P.size = n
theorem Sp5.setP {m : Nat} {w wr : World} {p g n : Nat} {P : Array Value} {E : List (Fin (m + 1))} (h : Sp5 w wr p g n P E) (k : Nat) (u : Value) : Sp5 w (wr.setCell ⟨p, k, none⟩ u) p g n (P.setIfInBounds k u) E := by
  have h1 := h.pg
  refine ⟨h.below.setCell (p := ⟨p, k, none⟩) h.lp u, by simp [World.setCell, Array.getElem?_modify, h.hp], fun j hj => ?_, h.lp, h.pg, by simp [h.sp]⟩
  have ho : (wr.setCell ⟨p, k, none⟩ u).heap[g]? = wr.heap[g]? := Below.heap_setCell wr ⟨p, k, none⟩ u g (by show g ≠ p; omega)
  rw [World.cell?_of_block ho]
  exact h.hg j hj
theorem Sp5.sorted {m : Nat} {w wr : World} {p g n q : Nat} {P : Array Value} {D E : List (Fin (m + 1))} (hb : Below w.heap.size w wr) (hp : wr.heap[p]? = some (.cells P 2 (0, 0))) (hH : Holds posE wr g 0 D.toArray) (hl : E.length = D.length) (lp : w.heap.size ≤ p) (pg : p < g) (sp : P.size = n) :
    Sp5 w ((putRow posE wr g 0 E.toArray).drewN q) p g n P E := by
  have ho : ∀ b, b ≠ g → ((putRow posE wr g 0 E.toArray).drewN q).heap[b]? = wr.heap[b]? := fun b hb => by
    have : ¬ g = b := fun e => hb e.symm
    show (putRow posE wr g 0 E.toArray).heap[b]? = _
    simp only [Go.Sort.putRow, Go.Sort.mapBlock, Array.getElem?_modify, this, if_false]
  refine ⟨⟨hb.os, hb.tape, hb.output, ?_, fun k hk => ?_⟩, (ho p (by omega)).trans hp, fun j hj => ?_, lp, pg, sp⟩
  · have h1 := hb.size
    show _ ≤ (putRow posE wr g 0 E.toArray).heap.size
    rw [Go.Sort.size_putRow]
    exact h1
  · exact (ho k (by omega)).trans (hb.block k hk)
  · have h1 := cell?_putRow posE wr g 0 D.toArray E.toArray hH (by simp [hl]) j (by simpa using hj)
    rw [Nat.zero_add] at h1
    have h2 : (E.toArray)[j]! = E[j] := by rw [getElem!_pos _ _ (by simpa using hj)]; simp
    rw [h2] at h1
    exact h1
end Go.Proofs.YtnbhneeohkfocaaDoor.Sc
