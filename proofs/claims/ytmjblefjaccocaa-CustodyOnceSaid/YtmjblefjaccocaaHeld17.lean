/- The program's Held. -/
import Derived.Test.YtmjblefjaccocaaBoxes17
namespace Go.Proofs.Ytmjblefjaccocaa.Sc
open Go Go.RowKit Go.ChangeShapes Go.WideShapes Go.ChangeAt Mp

theorem doneOf_day (l : List Hd) : ∀ h ∈ doneOf l, h.day ≤ 1048576 := by
  intro h hh
  obtain ⟨k, hk, rfl⟩ := List.getElem_of_mem hh
  exact step_day (doneOf_good l.length l rfl k hk)
theorem doneOf_fit {l : List Hd} (hf : ∀ h ∈ l, h.fit) : ∀ h ∈ doneOf l, h.fit := fun h hh => hf h (mem_doneOf hh)

set_option maxRecDepth 5000 in
set_option maxHeartbeats 2000000 in
theorem held_any (who : ByteArray) (p : Value) (done : List Hd) (F : Nat → Prop) (w : World) (hc : Chain w F p done) (hlen : done.length ≤ 4000) (hfit : ∀ h ∈ done, h.fit) (hday : ∀ h ∈ done, h.day ≤ 1048576) :
    Calls Try.prog 19 #[p, .string who] w (RetRow w 9 1 (heldOf done who).length (strCells (heldOf done who))) := by
  have HC := Lib.hid hc
  have HLEN := Lib.hid hlen
  have HF := Lib.hid hfit
  have HD := Lib.hid hday
  have hno : (boxesS done).length ≤ 4000 := by have := boxesS_len done; omega
  have HPOS : Hid (∀ b ∈ boxesS done, ownOf done b ≠ []) := Lib.hid fun b hb => ownOf_pos hb
  have HHE : Hid (heldOf done who = (boxesS done).filter fun b => decide (lastTo done b = who)) := Lib.hid rfl
  clear hc hlen hfit hday
  obtain ⟨i0, hi, hz, hsz, hby⟩ := info_parts infoStr
  have HI := Lib.hid (And.intro hi (And.intro hz (And.intro hsz hby)))
  clear hi hz hsz hby
  go_enter Try.func19, Try.ntmps19
  go_wp2_with (first
    | ((with_reducible refine (boxes_any p done F _ HC.out HLEN.out HF.out).mono ?_); rintro e w1 ⟨v1, rfl, hown1, hb1⟩; obtain ⟨a1, c1, rfl⟩ := own_shape hown1; have HROW := Lib.hid (own_strs hown1 rfl); have HB1 := Lib.hid hb1; have HC1 := Lib.hid (HC.out.below hb1); clear hown1 hb1)
    | fail)
  generalize boxesS done = bs at *
  go_loopw [5, 14] (fun o i wr => ∃ k : Nat, k ≤ bs.length ∧ i = .int .i64 k ∧ wr.ownsRow w1.heap.size 9 1 o ((bs.take k).filter fun b => decide (lastTo done b = who)).length (strCells ((bs.take k).filter fun b => decide (lastTo done b = who))) ∧
      Below w1.heap.size w1 wr) (fun _ i _ => bs.length - (intOf i).toNat)
  case atStart => exact ⟨0, Nat.zero_le _, rfl, World.ownsRow_nil _ _ _ _, Below.refl _ _⟩
  case round =>
    obtain ⟨k, hk, rfl, hown, hbel⟩ := hrel
    have HOWN := Lib.hid hown
    have HBEL := Lib.hid hbel
    clear hown
    by_cases hlt : k < bs.length
    · obtain ⟨b, off, rfl, -, hb, hc⟩ := HROW.out.at (i := k) (by simpa using hlt)
      have d0 : wr.cell? ⟨b, off + k, none⟩ = some (.string bs[k]) := (hbel.cell (p := ⟨b, off + k, none⟩) hb).trans (by have := hc k (stRow bs[k]) (by simp [hlt]) 0 _ rfl; rwa [Nat.mul_one] at this)
      have HLT : Hid ((bs.take (k + 1)).filter (fun b => decide (lastTo done b = who)) = (bs.take k).filter (fun b => decide (lastTo done b = who)) ++ if lastTo done bs[k] = who then [bs[k]] else []) := Lib.hid (by
        rw [List.take_succ_eq_append_getElem hlt, List.filter_append]
        simp only [List.filter_cons, List.filter_nil, decide_eq_true_eq])
      have HPX : Hid (ownOf done bs[k] ≠ []) := Lib.hid (HPOS.out _ (List.getElem_mem hlt))
      have HLO : Hid (((bs.take k).filter (fun b => decide (lastTo done b = who))).length ≤ k) := Lib.hid (by have := List.length_filter_le (fun b => decide (lastTo done b = who)) (bs.take k); simp at this; omega)
      have HCW := Lib.hid (HC1.out.below hbel)
      clear hc hbel
      generalize (bs.take k).filter (fun b => decide (lastTo done b = who)) = out at *
      generalize bs[k] = x at *
      obtain ⟨L, z, hw⟩ : ∃ L z, ownOf done x = L ++ [z] := by
        rcases List.eq_nil_or_concat (ownOf done x) with h | ⟨L, z, h⟩
        · exact absurd h HPX.out
        · exact ⟨L, z, by rw [h, List.concat_eq_append]⟩
      have hlz : lastTo done x = z.to := by rw [lastTo, hw]; simp
      rw [hlz] at HLT
      have HAS : Hid (asOf (ownOf done x) 1048576 = (z.to, z.place, true)) := Lib.hid (by
        rw [hw]
        refine asOf_last _ _ (HD.out z ?_)
        have : z ∈ ownOf done x := by rw [hw]; simp
        exact (List.mem_filter.1 this).1)
      clear hw hlz
      by_cases heq : z.to = who
      all_goals
        first | (have t1 := str_yes heq) | (have t1 := str_no heq)
        have HEQ := Lib.hid heq
        clear heq
        go_wp2_with (first
          | ((with_reducible refine (now_any x p done F _ HCW.out HLEN.out).mono ?_); rintro e w2 ⟨rfl, hb2⟩; rw [HAS.out]; have HOWN2 := Lib.hid (ownsRow_below HOWN.out hb2); have HB2 := Lib.hid (HBEL.out.trans (hb2.mono HBEL.out.size)); clear hb2; have HL : Hid (out.length + 1 ≤ maxLen ∧ (out.length + 1) * 16 ≤ 140737488355328 ∧ w1.heap.size ≤ w2.heap.size) := Lib.hid (by have h1 := HLO.out; have h2 := HB2.out.size; simp only [maxLen]; omega))
          | (((with_reducible refine Any.wpl_push ?_ ?_ ?_ Try.underlying45 HI.out.1 HI.out.2.1 HI.out.2.2.1 HI.out.2.2.2 ?_ (by decide) ?_ (str_one _) (HOWN2.out) HL.out.1 HL.out.2.1 HL.out.2.2 ?_); rfl; rfl; rfl; rfl; rfl; intro v3 w3 hown3 hgrow3 hwho3); have HOWN3 := Lib.hid hown3; have HG3 := Lib.hid hgrow3; clear hown3 hgrow3 hwho3)
          | fail)
        go_roundw
        case rel =>
          first
            | exact ⟨k + 1, by omega, by go_num, by rw [HLT.out, if_pos HEQ.out]; have := HOWN3.out; simpa [strCells] using this, HB2.out.grown HG3.out HB2.out.size (fun j hj => (HOWN2.out.lt j hj).1)⟩
            | exact ⟨k + 1, by omega, by go_num, by rw [HLT.out, if_neg HEQ.out, List.append_nil]; exact HOWN2.out, HB2.out⟩
        case measure => simp [intOf]; omega
    · clear hbel
      go_wp2_with fail
      go_ret
      have := HOWN.out
      rw [List.take_of_length_le (by omega), ← HHE.out] at this
      exact retRow this HB1.out.size (HB1.out.trans (HBEL.out.mono HB1.out.size))
end Go.Proofs.Ytmjblefjaccocaa.Sc
