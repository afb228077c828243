/- The document's answers: As, Held, Check. -/
import Derived.Test.YtmjblefjaccocaaRefB17
import Derived.Test.YtmjblefjaccocaaKeep
namespace Go.Proofs.Ytmjblefjaccocaa.Sc
open Go Go.RowKit Go.ChangeShapes Go.WideShapes Go.ChangeAt

/-- Who has it, as of a day. -/
def asOf : List Hd → Int → ByteArray × ByteArray × Bool
  | l, d => l.foldl (fun r h => if h.day ≤ d then (h.to, h.place, true) else r) (⟨#[]⟩, ⟨#[]⟩, false)
theorem asOf_take (l : List Hd) (d : Int) (k : Nat) (h : k < l.length) : asOf (l.take (k + 1)) d = if l[k].day ≤ d then (l[k].to, l[k].place, true) else asOf (l.take k) d := by
  rw [List.take_succ_eq_append_getElem h, asOf, List.foldl_append]
  rfl
def Ret3 (w : World) (r : ByteArray × ByteArray × Bool) : Ending → World → Prop := Ret w (.tuple #[.string r.1, .string r.2.1, .bool r.2.2])
theorem ret3 {w w' : World} {r : ByteArray × ByteArray × Bool} {a b : ByteArray} {c : Bool} (h : (a, b, c) = r) (hb : Below w.heap.size w w') : Ret3 w r (.returned (.tuple #[.string a, .string b, .bool c])) w' := by subst h; exact ⟨rfl, hb⟩

set_option maxRecDepth 5000 in
set_option maxHeartbeats 2000000 in
theorem refAs_any (l : List Hd) (box : ByteArray) (d : Int) (v : Value) (w : World) (hs : Sl w 5 v (l.map Hd.row)) (hlen : l.length ≤ 1000000) :
    Calls Try.prog 25 #[v, .string box, .int .i64 d] w (Ret3 w (asOf (ownOf l box) d)) := by
  have HSL := Lib.hid hs
  have HLEN := Lib.hid hlen
  have hno : (ownOf l box).length ≤ 1000000 := by have := ownOf_len l box; omega
  clear hs hlen
  go_enter Try.func25, Try.ntmps25
  go_wp2_with (first
    | ((with_reducible refine (refOwn_any l box _ _ HSL.out HLEN.out).mono ?_); rintro e w1 ⟨v1, rfl, hown1, hb1⟩; obtain ⟨a1, c1, rfl⟩ := own_shape hown1; have HROW := Lib.hid (own_hands hown1 rfl); clear hown1)
    | fail)
  generalize ownOf l box = own at *
  go_loopw [9, 10, 11, 13] (fun x y o i wr => ∃ k : Nat, k ≤ own.length ∧ i = .int .i64 k ∧ x = .string (asOf (own.take k) d).1 ∧ y = .string (asOf (own.take k) d).2.1 ∧ o = .bool (asOf (own.take k) d).2.2 ∧ Below w1.heap.size w1 wr) (fun _ _ _ i _ => own.length - (intOf i).toNat)
  case atStart => exact ⟨0, Nat.zero_le _, rfl, rfl, rfl, rfl, Below.refl _ _⟩
  case round =>
    obtain ⟨k, hk, rfl, rfl, rfl, rfl, hbel⟩ := hrel
    by_cases hlt : k < own.length
    · obtain ⟨b, off, rfl, -, hb, hc⟩ := HROW.out.at (i := k) (by simpa using hlt)
      have hr := hc k own[k].row (by simp [hlt])
      have HT := Lib.hid (asOf_take own d k hlt)
      have d2 := (hbel.cell (p := ⟨b, off + k * 5 + 2, none⟩) hb).trans (hr 2 _ rfl)
      have d3 := (hbel.cell (p := ⟨b, off + k * 5 + 3, none⟩) hb).trans (hr 3 _ rfl)
      have d4 := (hbel.cell (p := ⟨b, off + k * 5 + 4, none⟩) hb).trans (hr 4 _ rfl)
      clear hr hc
      generalize own[k] = x at *
      by_cases hd : x.day ≤ d
      · have HD := Lib.hid hd
        have t1 : decide (x.day ≤ d) = true := decide_eq_true hd
        clear hd
        go_wp2_with fail
        go_quiet (fail)
        go_wp2_with fail
        go_roundw
        case rel => exact ⟨k + 1, by omega, by go_num, by rw [HT.out, if_pos HD.out], by rw [HT.out, if_pos HD.out], by rw [HT.out, if_pos HD.out], below_drewN hbel _⟩
        case measure => simp [intOf]; omega
      · have HD := Lib.hid (show ¬ x.day ≤ d from hd)
        have t1 : decide (x.day ≤ d) = false := decide_eq_false hd
        clear hd
        go_wp2_with fail
        go_roundw
        case rel => exact ⟨k + 1, by omega, by go_num, by rw [HT.out, if_neg HD.out], by rw [HT.out, if_neg HD.out], by rw [HT.out, if_neg HD.out], hbel⟩
        case measure => simp [intOf]; omega
    · go_wp2_with fail
      go_ret3
      exact ret3 (by rw [List.take_of_length_le (by omega)]) (hb1.trans (hbel.mono hb1.size))

theorem mem_putR {x : ByteArray} : ∀ (l : List ByteArray) (s : ByteArray) (d : Bool), x ∈ putR l s d ↔ (x ∈ l ∧ x ≠ s) ∨ (x = s ∧ d = false)
  | [], s, d => by cases d <;> simp [putR]
  | y :: r, s, d => by
    have ih := mem_putR (x := x) r s (d || strLe s y)
    simp only [putR, List.mem_append, ih, List.mem_cons]
    by_cases hx : x = s
    · subst hx
      cases d <;> cases strLe x y <;> by_cases hy : y = x <;> (try have hy' : ¬ x = y := fun e => hy e.symm) <;> simp_all
    · have hx' : ¬ s = x := fun e => hx e.symm
      by_cases hy : y = s
      · subst hy
        cases d <;> cases strLe y y <;> simp [hx]
      · cases d <;> cases strLe s y <;> simp [hx, hy]
theorem mem_putS {x : ByteArray} (l : List ByteArray) (s : ByteArray) : x ∈ putS l s ↔ x ∈ l ∨ x = s := by
  rw [putS, mem_putR]
  by_cases h : x = s <;> simp [h]
theorem mem_boxesS {x : ByteArray} (l : List Hd) : x ∈ boxesS l ↔ ∃ h ∈ l, h.box = x := by
  have : ∀ (l : List Hd) (out : List ByteArray), x ∈ l.foldl (fun out h => putS out h.box) out ↔ x ∈ out ∨ ∃ h ∈ l, h.box = x := by
    intro l
    induction l with
    | nil => simp
    | cons h r ih =>
      intro out
      simp only [List.foldl_cons, ih, mem_putS, List.mem_cons, exists_eq_or_imp]
      constructor
      · rintro ((h1 | h1) | h1)
        · exact .inl h1
        · exact .inr (.inl h1.symm)
        · exact .inr (.inr h1)
      · rintro (h1 | h1 | h1)
        · exact .inl (.inl h1)
        · exact .inl (.inr h1.symm)
        · exact .inr h1
  simpa [boxesS] using this l []
theorem ownOf_pos {l : List Hd} {b : ByteArray} (h : b ∈ boxesS l) : ownOf l b ≠ [] := by
  obtain ⟨x, hx, rfl⟩ := (mem_boxesS l).1 h
  exact List.ne_nil_of_mem (List.mem_filter.2 ⟨hx, by simp⟩)
def lastTo (l : List Hd) (b : ByteArray) : ByteArray := match (ownOf l b).getLast? with | some h => h.to | none => ⟨#[]⟩
/-- Whose is somebody's now. -/
def heldOf (l : List Hd) (who : ByteArray) : List ByteArray := (boxesS l).filter fun b => decide (lastTo l b = who)

set_option maxRecDepth 5000 in
set_option maxHeartbeats 2000000 in
theorem refHeld_any (l : List Hd) (who : ByteArray) (v : Value) (w : World) (hs : Sl w 5 v (l.map Hd.row)) (hlen : l.length ≤ 100000) :
    Calls Try.prog 26 #[v, .string who] w (RetRow w 9 1 (heldOf l who).length (strCells (heldOf l who))) := by
  have HSL := Lib.hid hs
  have HLEN : Hid (l.length ≤ 1000000) := Lib.hid (by omega)
  have hno : (boxesS l).length ≤ 100000 := by have := boxesS_len l; omega
  have HPOS : Hid (∀ b ∈ boxesS l, ownOf l b ≠ []) := Lib.hid fun b hb => ownOf_pos hb
  have HHE : Hid (heldOf l who = (boxesS l).filter fun b => decide (lastTo l b = who)) := Lib.hid rfl
  clear hs hlen
  obtain ⟨i0, hi, hz, hsz, hby⟩ := info_parts infoStr
  have HI := Lib.hid (And.intro hi (And.intro hz (And.intro hsz hby)))
  clear hi hz hsz hby
  have HB0 : Hid (Below w.heap.size w (w.alloc (.cells #[] 9))) := Lib.hid (one_below _ _)
  go_enter Try.func26, Try.ntmps26
  go_wp2_with (first
    | ((with_reducible refine (refBoxes_any l _ _ (HSL.out.below HB0.out (Nat.le_refl _)) HLEN.out).mono ?_); rintro e w1 ⟨v1, rfl, hown1, hb1⟩; obtain ⟨a1, c1, rfl⟩ := own_shape hown1; have HROW := Lib.hid (own_strs hown1 rfl); have HB1 := Lib.hid hb1; have HR1 := Lib.hid hown1; clear hown1)
    | fail)
  have HO0 : Hid (w1.ownsRow w.heap.size 9 1 (.slice (some ⟨w.heap.size, 0, none⟩) 0 0) 0 []) := Lib.hid (ownsRow_below (World.ownsRow_made w #[] 0 (Nat.le_refl _) (by simp [maxLen]) rfl) HB1.out)
  have HW1 : Hid (w.heap.size < w1.heap.size ∧ Below w.heap.size w w1) := Lib.hid ⟨size_new hb1, below_new hb1⟩
  have HOB : Hid (Off (fun k => k = w.heap.size) (.slice a1 (boxesS l).length c1)) := Lib.hid (ownsRow_off HR1.out (fun b h1 _ => by simp at h1; omega))
  generalize boxesS l = bs at *
  clear hb1
  go_loopw [5, 13] (fun o i wr => ∃ k : Nat, k ≤ bs.length ∧ i = .int .i64 k ∧ wr.ownsRow w.heap.size 9 1 o ((bs.take k).filter fun b => decide (lastTo l b = who)).length (strCells ((bs.take k).filter fun b => decide (lastTo l b = who))) ∧
      Keep (fun k => k = w.heap.size) w1 wr ∧ (∀ g, o.ownBlock = some g → g = w.heap.size ∨ w1.heap.size ≤ g)) (fun _ i _ => bs.length - (intOf i).toNat)
  case atStart => exact ⟨0, Nat.zero_le _, rfl, HO0.out, Keep.refl _ _, fun g hg => .inl (Option.some.inj hg).symm⟩
  case round =>
    obtain ⟨k, hk, rfl, hown, hkeep, hog⟩ := hrel
    have HOWN := Lib.hid hown
    have HKEEP := Lib.hid hkeep
    have HOG := Lib.hid hog
    clear hown hkeep hog
    by_cases hlt : k < bs.length
    · obtain ⟨b, off, rfl, -, hb, hc⟩ := HROW.out.at (i := k) (by simpa using hlt)
      have d0 : wr.cell? ⟨b, off + k, none⟩ = some (.string bs[k]) := (HKEEP.out.cell hb (HOB.out b rfl)).trans (by have := hc k (stRow bs[k]) (by simp [hlt]) 0 _ rfl; rwa [Nat.mul_one] at this)
      have HLT : Hid ((bs.take (k + 1)).filter (fun b => decide (lastTo l b = who)) = (bs.take k).filter (fun b => decide (lastTo l b = who)) ++ if lastTo l bs[k] = who then [bs[k]] else []) := Lib.hid (by
        rw [List.take_succ_eq_append_getElem hlt, List.filter_append]
        simp only [List.filter_cons, List.filter_nil, decide_eq_true_eq])
      have HPX : Hid (ownOf l bs[k] ≠ []) := Lib.hid (HPOS.out _ (List.getElem_mem hlt))
      have HLO : Hid (((bs.take k).filter (fun b => decide (lastTo l b = who))).length ≤ k) := Lib.hid (by have := List.length_filter_le (fun b => decide (lastTo l b = who)) (bs.take k); simp at this; omega)
      have HBEL : Hid (Below w.heap.size w wr) := Lib.hid (HKEEP.out.behind HW1.out.2 (by have := HW1.out.1; omega) (fun k h1 h2 => by omega))
      clear hc
      generalize (bs.take k).filter (fun b => decide (lastTo l b = who)) = out at *
      generalize bs[k] = x at *
      obtain ⟨L, z, hw⟩ : ∃ L z, ownOf l x = L ++ [z] := by
        rcases List.eq_nil_or_concat (ownOf l x) with h | ⟨L, z, h⟩
        · exact absurd h HPX.out
        · exact ⟨L, z, by rw [h, List.concat_eq_append]⟩
      have hlz : lastTo l x = z.to := by rw [lastTo, hw]; simp
      rw [hlz] at HLT
      obtain ⟨m, hm⟩ : ∃ m, L.length = m := ⟨_, rfl⟩
      have HM := Lib.hid hm
      have hm5 : (m : Int) ≤ 1000000 := by have h1 := ownOf_len l x; have h2 := HLEN.out; rw [hw] at h1; simp at h1; omega
      have HW := Lib.hid hw
      clear hw hm hlz
      by_cases heq : z.to = who
      all_goals
        first | (have t1 := str_yes heq) | (have t1 := str_no heq)
        have HEQ := Lib.hid heq
        clear heq
        go_wp2_with (first
          | ((with_reducible refine (refOwn_any l x _ _ (HSL.out.below HBEL.out (Nat.le_refl _)) HLEN.out).mono ?_); rintro e w2 ⟨v2, rfl, hown2, hb2⟩; rw [HW.out, show (L ++ [z]).length = m + 1 from by simp [HM.out]] at hown2; obtain ⟨a2, c2, rfl⟩ := own_shape hown2; have HOWN2 := Lib.hid (ownsRow_below HOWN.out hb2); have HK2 := Lib.hid (HKEEP.out.trans (Keep.of_below (F := fun k => k = w.heap.size) hb2) (fun _ _ h => h)); have HS2 := Lib.hid hb2.size; clear hb2; have HL : Hid (out.length + 1 ≤ maxLen ∧ (out.length + 1) * 16 ≤ 140737488355328 ∧ w.heap.size ≤ w2.heap.size) := Lib.hid (by have h1 := HLO.out; have h2 := HKEEP.out.size; have h3 := HS2.out; have h4 := HW1.out.1; simp only [maxLen]; omega);
              obtain ⟨b2, off2, rfl, -, hlt2, hc2⟩ := (own_hands hown2 (by simp [HM.out])).at (i := m) (by simp [HM.out]); have q2 := hc2 m z.row (by simp [← HM.out]) 2 _ rfl; clear hc2 hown2)
          | (((with_reducible refine Any.wpl_push ?_ ?_ ?_ Try.underlying45 HI.out.1 HI.out.2.1 HI.out.2.2.1 HI.out.2.2.2 ?_ (by decide) ?_ (str_one _) (HOWN2.out) HL.out.1 HL.out.2.1 HL.out.2.2 ?_); rfl; rfl; rfl; rfl; rfl; intro v3 w3 hown3 hgrow3 hwho3); have HOWN3 := Lib.hid hown3; have HG3 := Lib.hid hgrow3; have HW3 := Lib.hid hwho3; clear hown3 hgrow3 hwho3)
          | fail)
        go_roundw
        case rel =>
          first
            | exact ⟨k + 1, by omega, by go_num, by rw [HLT.out, if_pos HEQ.out]; have := HOWN3.out; simpa [strCells] using this,
                HK2.out.trans (Keep.of_grown HG3.out) (fun i hi hg => (HOG.out i hg).resolve_right (by omega)),
                fun g hg => (HW3.out g hg).elim (fun h => HOG.out g h) (fun h => .inr (Nat.le_trans HK2.out.size h))⟩
            | exact ⟨k + 1, by omega, by go_num, by rw [HLT.out, if_neg HEQ.out, List.append_nil]; exact HOWN2.out, HK2.out, HOG.out⟩
        case measure => simp [intOf]; omega
    · go_wp2_with fail
      go_ret
      have := HOWN.out
      rw [List.take_of_length_le (by omega), ← HHE.out] at this
      exact retRow this (Nat.le_refl _) (HKEEP.out.behind HW1.out.2 (by have := HW1.out.1; omega) (fun k h1 h2 => by omega))
end Go.Proofs.Ytmjblefjaccocaa.Sc
