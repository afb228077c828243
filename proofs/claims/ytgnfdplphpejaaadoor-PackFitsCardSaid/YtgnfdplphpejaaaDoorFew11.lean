/- few, Few. -/
import Derived.Test.YtgnfdplphpejaaaDoorGood11
import Derived.Test.YtgnfdplphpejaaaDoorLot11
namespace Go.Proofs.YtgnfdplphpejaaaDoor.Sc
open Go Go.RowKit Go.ChangeShapes Go.WideShapes Go.ChangeAt
set_option maxRecDepth 100000

def FewP (w : World) (p : Prop) (e : Ending) (w' : World) : Prop := ∃ b, e = .returned (.bool b) ∧ (b = true → p) ∧ Below w.heap.size w w'
structure LtFew (l : List Lt) : Prop where
  len : l.length ≤ 41
  cnt : ∀ x ∈ l, x.cnt ≤ 1099511627776
set_option maxHeartbeats 4000000 in
theorem refFew_any (l : List Lt) (v : Value) (w : World) (hs : Sl w 2 v (l.map Lt.row)) :
    Calls Tryd.prog 15 #[v] w (FewP w (LtFew l)) := by
  have hll : l.length ≤ 9223372036854775807 := by have := hs.len_le; simp only [List.length_map, maxLen] at this; omega
  obtain ⟨a, c, rfl⟩ : ∃ a c, v = .slice a l.length c := by simpa using hs.shape
  have HS := Lib.hid hs
  clear hs
  go_enter Tryd.func15, Tryd.ntmps15
  go_wp2_with fail
  go_loopw [3] (fun i wr => ∃ k : Nat, k ≤ l.length ∧ k ≤ 41 ∧ i = .int .i64 k ∧ (∀ x ∈ l.take k, x.cnt ≤ 1099511627776) ∧ Below w.heap.size w wr) (fun i _ => l.length - (intOf i).toNat)
  case atStart => exact ⟨0, Nat.zero_le _, by omega, rfl, by simp, Below.refl _ _⟩
  case round =>
    obtain ⟨k, hk, hk41, rfl, hcn, hbel⟩ := hrel
    have HBEL := Lib.hid hbel
    have HCN := Lib.hid hcn
    clear hcn
    by_cases hlt : k < l.length
    · obtain ⟨b, off, rfl, -, hb, hc⟩ := HS.out.at (i := k) (by simpa using hlt)
      have d0 := (hbel.cell (p := ⟨b, off + k * 2, none⟩) hb).trans (hc k l[k].row (by simp [hlt]) 0 _ rfl)
      have d1 := (hbel.cell (p := ⟨b, off + k * 2 + 1, none⟩) hb).trans (hc k l[k].row (by simp [hlt]) 1 _ rfl)
      have HNX : Hid (l[k].cnt ≤ 1099511627776 → ∀ x ∈ l.take (k + 1), x.cnt ≤ 1099511627776) := Lib.hid (fun h x hx => by
        rw [List.take_succ_eq_append_getElem hlt] at hx
        rcases List.mem_append.1 hx with hx | hx
        · exact HCN.out x hx
        · rw [List.mem_singleton.1 hx]; exact h)
      clear hc hbel
      generalize l[k] = y at *
      obtain ⟨xn, xc⟩ := y
      simp only at d0 d1 HNX
      by_cases h1 : (40 : Int) < (k : Int)
      · have t1 : decide ((40 : Int) < (k : Int)) = true := decide_eq_true h1
        clear h1
        go_wp2_with fail
        go_ret
        exact ⟨false, rfl, by simp, HBEL.out⟩
      · have t1 : decide ((40 : Int) < (k : Int)) = false := decide_eq_false h1
        by_cases h2 : (60 : Int) < (xn.size : Int)
        · have t2 : decide ((60 : Int) < (xn.size : Int)) = true := decide_eq_true h2
          clear h1 h2
          go_wp2_with fail
          go_ret
          exact ⟨false, rfl, by simp, HBEL.out⟩
        · have t2 : decide ((60 : Int) < (xn.size : Int)) = false := decide_eq_false h2
          by_cases h3 : (1099511627776 : Int) < xc
          · have t3 : decide ((1099511627776 : Int) < xc) = true := decide_eq_true h3
            clear h1 h2 h3
            go_wp2_with fail
            go_ret
            exact ⟨false, rfl, by simp, HBEL.out⟩
          · have t3 : decide ((1099511627776 : Int) < xc) = false := decide_eq_false h3
            have HK : Hid (k + 1 ≤ 41) := Lib.hid (by omega)
            have HC := Lib.hid (HNX.out (by omega))
            clear h1 h2 h3
            go_wp2_with fail
            go_roundw
            case rel => exact ⟨k + 1, by omega, HK.out, by go_num, HC.out, HBEL.out⟩
            case measure => (simp [intOf]) <;> omega
    · have HK : Hid (l.length ≤ 41) := Lib.hid (by omega)
      have HE : Hid (l.take k = l) := Lib.hid (List.take_of_length_le (by omega))
      clear hbel
      go_wp2_with fail
      go_ret
      exact ⟨true, rfl, fun _ => ⟨HK.out, by have := HCN.out; rwa [HE.out] at this⟩, HBEL.out⟩
end Go.Proofs.YtgnfdplphpejaaaDoor.Sc
