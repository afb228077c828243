/- The document's rows of receipts: one put by its number, one taken away. -/
import Derived.Test.YticnmmfiadpbbaaGreatRfB25
import Derived.Test.YticnmmfiadpbbaaGreatPut1
namespace Go.Proofs.YticnmmfiadpbbaaGreat.Sc
open Go Go.RowKit Go.ChangeShapes Go.WideShapes Go.ChangeAt
set_option maxRecDepth 100000

theorem rvCells_snoc (a : List Rv) (x : Rv) : rvCells (a ++ [x]) = rvCells a ++ x.cells.toList := by simp [rvCells, Rv.row]
set_option maxHeartbeats 8000000 in
theorem refWithout_any (M : List Rv) (n : ByteArray) (v : Value) (w : World) (hs : Sl w 5 v (M.map Rv.row)) (hok : ∀ x ∈ M, RvOk w x) (hlen : M.length ≤ 1000000) :
    Calls Tryz.prog 78 #[v, .string n] w (RetRow w 34 5 (rdelV M n).length (rvCells (rdelV M n))) := by
  have hll : M.length ≤ 9223372036854775807 := by omega
  have HS := Lib.hid hs
  have HOK := Lib.hid hok
  have HLEN := Lib.hid hlen
  obtain ⟨a, c, rfl⟩ : ∃ a c, v = .slice a M.length c := by simpa using hs.shape
  obtain ⟨i0, hi, hz, hsz, hby⟩ := info_parts infoRv
  have HI := Lib.hid (And.intro hi (And.intro hz (And.intro hsz hby)))
  clear hi hz hsz hby hs hok hlen
  go_enter Tryz.func78, Tryz.ntmps78
  go_wp2_with fail
  go_loopw [5, 6] (fun o i wr => ∃ (k : Nat) (out : List Rv), k ≤ M.length ∧ i = .int .i64 k ∧ wr.ownsRow w.heap.size 34 5 o out.length (rvCells out) ∧ Below w.heap.size w wr ∧ rdelV M n = out ++ rdelV (M.drop k) n ∧ out.length ≤ k) (fun _ i _ => M.length - (intOf i).toNat)
  case atStart => exact ⟨0, [], Nat.zero_le _, rfl, World.ownsRow_made w #[] 0 (Nat.le_refl _) (by simp [maxLen]) rfl, one_below _ _, rfl, by simp⟩
  case round =>
    obtain ⟨k, out, hk, rfl, hown, hbel, hput, hol⟩ := hrel
    have HOWN := Lib.hid hown
    have HPUT := Lib.hid hput
    have HBEL := Lib.hid hbel
    clear hown hput
    have HL : Hid (out.length + 1 ≤ maxLen ∧ (out.length + 1) * 80 ≤ 140737488355328 ∧ w.heap.size ≤ wr.heap.size) := Lib.hid (by
      have h3 := HLEN.out
      have h4 := hbel.size
      simp only [maxLen]
      omega)
    by_cases hlt : k < M.length
    · obtain ⟨b, off, rfl, hb, hc⟩ := sl_rv HS.out hlt
      obtain ⟨d0, d1, d2, d3, d4⟩ := hc.below hbel hb
      have HD : Hid (rdelV (M.drop k) n = if M[k].rc.num = n then rdelV (M.drop (k + 1)) n else M[k] :: rdelV (M.drop (k + 1)) n) := Lib.hid (by
        rw [List.drop_eq_getElem_cons hlt]
        by_cases h : M[k].rc.num = n
        · rw [if_pos h]; exact List.filter_cons_of_neg (by simp [h])
        · rw [if_neg h]; exact List.filter_cons_of_pos (by simp [h]))
      have HONE := Lib.hid (rv_one' (HOK.out _ (List.getElem_mem hlt)))
      clear hc hbel
      generalize M[k] = x at *
      obtain ⟨⟨xn, xh, xo, xl, xd⟩, xv⟩ := x
      simp only at d0 d1 d2 d3 d4 HONE HD
      by_cases hx : xn = n
      · have t1 := str_yes hx
        have HQ := Lib.hid hx
        clear hx
        go_wp2_with fail
        go_roundw
        case rel => exact ⟨k + 1, out, by omega, by go_num, HOWN.out, HBEL.out, by rw [HPUT.out, HD.out, if_pos HQ.out], by omega⟩
        case measure => (simp [intOf]) <;> omega
      · have t1 := str_no hx
        have HQ := Lib.hid hx
        clear hx
        go_wp2_with (first
          | (((with_reducible refine Any.wpl_push ?_ ?_ ?_ Tryz.underlying26 HI.out.1 HI.out.2.1 HI.out.2.2.1 HI.out.2.2.2 ?_ (by decide) ?_ (HONE.out) (HOWN.out) HL.out.1 HL.out.2.1 HL.out.2.2 ?_); rfl; rfl; rfl; rfl; rfl; intro v1 w1 hown1 hgrow1 hwho1); have HB1 := Lib.hid (push_below HBEL.out HOWN.out hgrow1); have HOWN1 := Lib.hid hown1; clear hown1 hgrow1 hwho1)
          | fail)
        go_roundw
        case rel => exact ⟨k + 1, out ++ [⟨⟨xn, xh, xo, xl, xd⟩, xv⟩], by omega, by go_num, by have := HOWN1.out; simpa [rvCells_snoc, Rv.cells] using this, HB1.out, by rw [HPUT.out, HD.out, if_neg HQ.out, List.append_assoc]; rfl, by simp; omega⟩
        case measure => (simp [intOf]) <;> omega
    · have HD : Hid (rdelV (M.drop k) n = []) := Lib.hid (by rw [List.drop_eq_nil_of_le (by omega)]; rfl)
      clear hbel
      go_wp2_with fail
      go_ret
      exact retRow (B := w.heap.size) (by have := HOWN.out; rw [HPUT.out, HD.out]; simpa using this) (Nat.le_refl _) HBEL.out
end Go.Proofs.YticnmmfiadpbbaaGreat.Sc
