/- Shares: what is wrong first; the sort of the rests; plainly and by the program. -/
import Derived.Test.YtbigoifpfkdkjaaGreatDoorBase
import Derived.Test.YtbigoifpfkdkjaaGreatDoorLaw
import Derived.Test.YtbigoifpfkdkjaaGreatDoorMap
import Derived.Test.YtbigoifpfkdkjaaGreatDoorLaystopzd
import Derived.Shelf.Abstract
namespace Go.Proofs.YtbigoifpfkdkjaaGreatDoor.Sc
open Go Go.RowKit Go.ChangeShapes Go.WideShapes Go.ChangeAt
set_option maxRecDepth 100000

theorem neg1_any (n : Int) (w : World) : Calls Tryz.prog 162 #[.int .i64 n] w (RetB w (decide (n < 0))) := by
  go_enter Tryz.func162, Tryz.ntmps162
  go_wp2
  go_ret
  exact ⟨rfl, Below.refl _ _⟩
theorem over1_any (n : Int) (w : World) : Calls Tryz.prog 163 #[.int .i64 n] w (RetB w (decide (1099511627776 < n))) := by
  go_enter Tryz.func163, Tryz.ntmps163
  go_wp2
  go_ret
  exact ⟨rfl, Below.refl _ _⟩
theorem pos1_any (n : Int) (w : World) : Calls Tryz.prog 164 #[.int .i64 n] w (RetB w (decide (0 < n))) := by
  go_enter Tryz.func164, Tryz.ntmps164
  go_wp2
  go_ret
  exact ⟨rfl, Below.refl _ _⟩
def nRow (n : Int) : List Value := [.int .i64 n]
theorem any_dropI {l : List Int} {k : Nat} (h : k < l.length) (f : Int → Bool) : (l.drop k).any f = (f l[k] || (l.drop (k + 1)).any f) := by rw [List.drop_eq_getElem_cons h, List.any_cons]
def IdxI (w : World) (b : Bool) (e : Ending) (w' : World) : Prop := ∃ i : Int, e = .returned (.int .i64 i) ∧ decide (0 ≤ i) = b ∧ Below w.heap.size w w'
set_option maxHeartbeats 4000000 in
theorem indexI_any (f : Int → Bool) (g : Nat) (l : List Int) (v : Value) (w : World) (hs : Sl w 1 v (l.map nRow)) (eg : ∀ args w, (callFunc g args).run Tryz.prog w = .ok (.enter g args) w)
    (hcl : ∀ W (x : Int), Calls Tryz.prog g #[.int .i64 x] W (RetB W (f x))) :
    Calls Tryz.prog 186 #[v, .func (.func g) #[] #[]] w (IdxI w (l.any f)) := by
  obtain ⟨a, c, rfl⟩ : ∃ a c, v = .slice a l.length c := by simpa using hs.shape
  have hll : l.length ≤ 9223372036854775807 := by have := hs.len_le; simp only [List.length_map, maxLen] at this; omega
  have HS := Lib.hid hs
  have HCL := Lib.hid hcl
  clear hs hcl
  go_enter Tryz.func186, Tryz.ntmps186
  go_wp2_with fail
  go_loopw [5, 8] (fun _ i wr => ∃ k : Nat, k ≤ l.length ∧ i = .int .i64 k ∧ l.any f = (l.drop k).any f ∧ Below w.heap.size w wr) (fun _ i _ => l.length - (intOf i).toNat)
  case atStart => exact ⟨0, Nat.zero_le _, rfl, rfl, Below.refl _ _⟩
  case round =>
    obtain ⟨k, hk, rfl, hrel, hbel⟩ := hrel
    have HBEL := Lib.hid hbel
    by_cases hlt : k < l.length
    · obtain ⟨b, off, rfl, -, hb, hc⟩ := HS.out.at (i := k) (by simpa using hlt)
      have d0 := (hbel.cell (p := ⟨b, off + k * 1, none⟩) hb).trans (hc k (nRow l[k]) (by simp [hlt]) 0 _ rfl)
      rw [Nat.mul_one] at d0
      rw [any_dropI hlt] at hrel
      generalize l[k] = x at *
      have HC := Lib.hid (HCL.out wr x)
      have tk : ((k : Nat) : Int) < (l.length : Int) := by omega
      clear hb hc hbel
      generalize hr : f x = r at *
      clear hr
      cases r
      · have HR := Lib.hid hrel
        clear hrel
        go_wp2_with (first
          | (go_at_fn g; refine HC.out.mono ?_; rintro e w2 ⟨rfl, hb2⟩; have HB2 := Lib.hid (HBEL.out.trans (hb2.mono HBEL.out.size)); clear hb2)
          | fail)
        go_roundw
        case rel => exact ⟨k + 1, by omega, by go_num, by rw [HR.out]; rfl, HB2.out⟩
        case measure => (simp [intOf]) <;> omega
      · have HR := Lib.hid hrel
        clear hrel
        go_wp2_with (first
          | (go_at_fn g; refine HC.out.mono ?_; rintro e w2 ⟨rfl, hb2⟩; have HB2 := Lib.hid (HBEL.out.trans (hb2.mono HBEL.out.size)); clear hb2)
          | fail)
        go_ret
        exact ⟨k, rfl, by rw [HR.out]; simp, HB2.out⟩
    · have HE : Hid (l.any f = false) := Lib.hid (by rw [hrel, List.drop_of_length_le (by omega)]; rfl)
      clear hrel hbel hk
      go_wp2_with fail
      go_ret
      exact ⟨-1, rfl, by rw [HE.out]; rfl, HBEL.out⟩
theorem containsI_any (f : Int → Bool) (g : Nat) (l : List Int) (v : Value) (w : World) (hs : Sl w 1 v (l.map nRow)) (eg : ∀ args w, (callFunc g args).run Tryz.prog w = .ok (.enter g args) w)
    (hcl : ∀ W (x : Int), Calls Tryz.prog g #[.int .i64 x] W (RetB W (f x))) :
    Calls Tryz.prog 161 #[v, .func (.func g) #[] #[]] w (RetB w (l.any f)) := by
  have HI := Lib.hid (indexI_any f g l v w hs eg hcl)
  clear hs hcl eg
  go_enter Tryz.func161, Tryz.ntmps161
  go_wp2_with (first
    | ((with_reducible refine HI.out.mono ?_); rintro e w2 ⟨i, rfl, hi, hb2⟩; have HB2 := Lib.hid hb2; have HQ := Lib.hid hi; clear hb2 hi)
    | fail)
  go_ret
  exact ⟨by rw [← HQ.out]; rfl, HB2.out⟩
def wrongS (total : Int) (ws : List Int) : Int :=
  if total < 0 ∨ ws.length = 0 ∨ ws.any (fun n => decide (n < 0)) = true then 1
  else if 1099511627776 < total ∨ 4096 < ws.length ∨ ws.any (fun n => decide (1099511627776 < n)) = true then 3
  else if 0 < total ∧ ws.any (fun n => decide (0 < n)) = false then 4 else 0
set_option maxHeartbeats 4000000 in
theorem wrongS_any (total : Int) (ws : List Int) (v : Value) (w : World) (hs : Sl w 1 v (ws.map nRow)) : Calls Tryz.prog 116 #[.int .i64 total, v] w (Ret w (.int .i64 (wrongS total ws))) := by
  obtain ⟨a, c, rfl⟩ : ∃ a c, v = .slice a ws.length c := by simpa using hs.shape
  have eg1 : ∀ args w, (callFunc 162 args).run Tryz.prog w = .ok (.enter 162 args) w := enters_of Tryz.func162 (by kernel_rfl) rfl
  have eg2 : ∀ args w, (callFunc 163 args).run Tryz.prog w = .ok (.enter 163 args) w := enters_of Tryz.func163 (by kernel_rfl) rfl
  have eg3 : ∀ args w, (callFunc 164 args).run Tryz.prog w = .ok (.enter 164 args) w := enters_of Tryz.func164 (by kernel_rfl) rfl
  have HC1 := Lib.hid (fun W (hW : Below w.heap.size w W) => containsI_any (fun n => decide (n < 0)) 162 ws _ W (hs.below hW (Nat.le_refl _)) eg1 (fun W x => neg1_any x W))
  have HC2 := Lib.hid (fun W (hW : Below w.heap.size w W) => containsI_any (fun n => decide (1099511627776 < n)) 163 ws _ W (hs.below hW (Nat.le_refl _)) eg2 (fun W x => over1_any x W))
  have HC3 := Lib.hid (fun W (hW : Below w.heap.size w W) => containsI_any (fun n => decide (0 < n)) 164 ws _ W (hs.below hW (Nat.le_refl _)) eg3 (fun W x => pos1_any x W))
  have HO1 := Lib.hid (fun W => over1_any total W)
  have hq : wrongS total ws = if total < 0 ∨ ws.length = 0 ∨ ws.any (fun n => decide (n < 0)) = true then 1
    else if 1099511627776 < total ∨ 4096 < ws.length ∨ ws.any (fun n => decide (1099511627776 < n)) = true then 3
    else if 0 < total ∧ ws.any (fun n => decide (0 < n)) = false then 4 else 0 := rfl
  have hll : ws.length ≤ 9223372036854775807 := by have := hs.len_le; simp only [List.length_map, maxLen] at this; omega
  generalize ws.any (fun n => decide (n < 0)) = q1 at *
  generalize ws.any (fun n => decide (1099511627776 < n)) = q2 at *
  generalize ws.any (fun n => decide (0 < n)) = q3 at *
  have HB := Lib.hid (Below.refl w.heap.size w)
  clear hs eg1 eg2 eg3
  by_cases h1 : total < 0
  · have t1 : decide (total < 0) = true := decide_eq_true h1
    rw [if_pos (.inl h1)] at hq
    have HQ := Lib.hid hq
    clear hq h1 HC1 HC2 HC3 HO1
    go_enter Tryz.func116, Tryz.ntmps116
    go_wp2_with fail
    go_ret
    exact ⟨by rw [HQ.out]; rfl, HB.out⟩
  have t1 : decide (total < 0) = false := decide_eq_false h1
  by_cases h2 : ws.length = 0
  · have t2 : ((ws.length : Int) == 0) = true := by simp [h2]
    have t2' : (ws.length == 0) = true := by simp [h2]
    rw [if_pos (.inr (.inl h2))] at hq
    have HQ := Lib.hid hq
    clear hq h1 h2 HC1 HC2 HC3 HO1
    go_enter Tryz.func116, Tryz.ntmps116
    go_wp2_with fail
    go_ret
    exact ⟨by rw [HQ.out]; rfl, HB.out⟩
  have t2 : ((ws.length : Int) == 0) = false := by rw [beq_eq_false_iff_ne]; omega
  have t2' : (ws.length == 0) = false := by simp [h2]
  cases q1
  rotate_left
  · rw [if_pos (.inr (.inr rfl))] at hq
    have HQ := Lib.hid hq
    clear hq h1 h2 HC2 HC3 HO1
    go_enter Tryz.func116, Tryz.ntmps116
    go_wp2_with (first | ((with_reducible refine (HC1.out _ HB.out).mono ?_); rintro e w2 ⟨rfl, hb2⟩; have HB := Lib.hid (HB.out.trans (hb2.mono HB.out.size)); clear hb2) | fail)
    go_ret
    exact ⟨by rw [HQ.out]; rfl, HB.out⟩
  rw [if_neg (by rintro (h | h | h); exact h1 h; exact h2 h; cases h)] at hq
  by_cases h3 : 1099511627776 < total
  · have t3 : decide (1099511627776 < total) = true := decide_eq_true h3
    rw [t3] at HO1
    rw [if_pos (.inl h3)] at hq
    have HQ := Lib.hid hq
    clear hq h1 h2 h3 HC2 HC3
    go_enter Tryz.func116, Tryz.ntmps116
    go_wp2_with (first | ((with_reducible refine (HC1.out _ HB.out).mono ?_); rintro e w2 ⟨rfl, hb2⟩; have HB := Lib.hid (HB.out.trans (hb2.mono HB.out.size)); clear hb2) | ((with_reducible refine (HO1.out _).mono ?_); rintro e w2 ⟨rfl, hb2⟩; have HB := Lib.hid (HB.out.trans (hb2.mono HB.out.size)); clear hb2) | fail)
    go_ret
    exact ⟨by rw [HQ.out]; rfl, HB.out⟩
  have t3 : decide (1099511627776 < total) = false := decide_eq_false h3
  rw [t3] at HO1
  by_cases h4 : 4096 < ws.length
  · have t4 : decide ((4096 : Int) < (ws.length : Int)) = true := decide_eq_true (by omega)
    have t4' : decide (4096 < ws.length) = true := decide_eq_true h4
    rw [if_pos (.inr (.inl h4))] at hq
    have HQ := Lib.hid hq
    clear hq h1 h2 h3 h4 HC2 HC3
    go_enter Tryz.func116, Tryz.ntmps116
    go_wp2_with (first | ((with_reducible refine (HC1.out _ HB.out).mono ?_); rintro e w2 ⟨rfl, hb2⟩; have HB := Lib.hid (HB.out.trans (hb2.mono HB.out.size)); clear hb2) | ((with_reducible refine (HO1.out _).mono ?_); rintro e w2 ⟨rfl, hb2⟩; have HB := Lib.hid (HB.out.trans (hb2.mono HB.out.size)); clear hb2) | fail)
    go_ret
    exact ⟨by rw [HQ.out]; rfl, HB.out⟩
  have t4 : decide ((4096 : Int) < (ws.length : Int)) = false := decide_eq_false (by omega)
  have t4' : decide (4096 < ws.length) = false := decide_eq_false h4
  cases q2
  rotate_left
  · rw [if_pos (.inr (.inr rfl))] at hq
    have HQ := Lib.hid hq
    clear hq h1 h2 h3 h4 HC3
    go_enter Tryz.func116, Tryz.ntmps116
    go_wp2_with (first | ((with_reducible refine (HC1.out _ HB.out).mono ?_); rintro e w2 ⟨rfl, hb2⟩; have HB := Lib.hid (HB.out.trans (hb2.mono HB.out.size)); clear hb2) | ((with_reducible refine (HO1.out _).mono ?_); rintro e w2 ⟨rfl, hb2⟩; have HB := Lib.hid (HB.out.trans (hb2.mono HB.out.size)); clear hb2) | ((with_reducible refine (HC2.out _ HB.out).mono ?_); rintro e w2 ⟨rfl, hb2⟩; have HB := Lib.hid (HB.out.trans (hb2.mono HB.out.size)); clear hb2) | fail)
    go_ret
    exact ⟨by rw [HQ.out]; rfl, HB.out⟩
  rw [if_neg (by rintro (h | h | h); exact h3 h; exact h4 h; cases h)] at hq
  by_cases h5 : 0 < total
  rotate_left
  · have t5 : decide (0 < total) = false := decide_eq_false h5
    rw [if_neg (fun h => h5 h.1)] at hq
    have HQ := Lib.hid hq
    clear hq h1 h2 h3 h4 h5 HC3
    go_enter Tryz.func116, Tryz.ntmps116
    go_wp2_with (first | ((with_reducible refine (HC1.out _ HB.out).mono ?_); rintro e w2 ⟨rfl, hb2⟩; have HB := Lib.hid (HB.out.trans (hb2.mono HB.out.size)); clear hb2) | ((with_reducible refine (HO1.out _).mono ?_); rintro e w2 ⟨rfl, hb2⟩; have HB := Lib.hid (HB.out.trans (hb2.mono HB.out.size)); clear hb2) | ((with_reducible refine (HC2.out _ HB.out).mono ?_); rintro e w2 ⟨rfl, hb2⟩; have HB := Lib.hid (HB.out.trans (hb2.mono HB.out.size)); clear hb2) | fail)
    go_ret
    exact ⟨by rw [HQ.out]; rfl, HB.out⟩
  have t5 : decide (0 < total) = true := decide_eq_true h5
  cases q3
  · rw [if_pos ⟨h5, rfl⟩] at hq
    have HQ := Lib.hid hq
    clear hq h1 h2 h3 h4 h5
    go_enter Tryz.func116, Tryz.ntmps116
    go_wp2_with (first | ((with_reducible refine (HC1.out _ HB.out).mono ?_); rintro e w2 ⟨rfl, hb2⟩; have HB := Lib.hid (HB.out.trans (hb2.mono HB.out.size)); clear hb2) | ((with_reducible refine (HO1.out _).mono ?_); rintro e w2 ⟨rfl, hb2⟩; have HB := Lib.hid (HB.out.trans (hb2.mono HB.out.size)); clear hb2) | ((with_reducible refine (HC2.out _ HB.out).mono ?_); rintro e w2 ⟨rfl, hb2⟩; have HB := Lib.hid (HB.out.trans (hb2.mono HB.out.size)); clear hb2) | ((with_reducible refine (HC3.out _ HB.out).mono ?_); rintro e w2 ⟨rfl, hb2⟩; have HB := Lib.hid (HB.out.trans (hb2.mono HB.out.size)); clear hb2) | fail)
    go_ret
    exact ⟨by rw [HQ.out]; rfl, HB.out⟩
  · rw [if_neg (fun h => by cases h.2)] at hq
    have HQ := Lib.hid hq
    clear hq h1 h2 h3 h4 h5
    go_enter Tryz.func116, Tryz.ntmps116
    go_wp2_with (first | ((with_reducible refine (HC1.out _ HB.out).mono ?_); rintro e w2 ⟨rfl, hb2⟩; have HB := Lib.hid (HB.out.trans (hb2.mono HB.out.size)); clear hb2) | ((with_reducible refine (HO1.out _).mono ?_); rintro e w2 ⟨rfl, hb2⟩; have HB := Lib.hid (HB.out.trans (hb2.mono HB.out.size)); clear hb2) | ((with_reducible refine (HC2.out _ HB.out).mono ?_); rintro e w2 ⟨rfl, hb2⟩; have HB := Lib.hid (HB.out.trans (hb2.mono HB.out.size)); clear hb2) | ((with_reducible refine (HC3.out _ HB.out).mono ?_); rintro e w2 ⟨rfl, hb2⟩; have HB := Lib.hid (HB.out.trans (hb2.mono HB.out.size)); clear hb2) | fail)
    go_ret
    exact ⟨by rw [HQ.out]; rfl, HB.out⟩
end Go.Proofs.YtbigoifpfkdkjaaGreatDoor.Sc
