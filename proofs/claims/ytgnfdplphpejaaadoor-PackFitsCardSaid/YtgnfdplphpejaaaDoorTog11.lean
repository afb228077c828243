/- May lots lie together: by the program. -/
import Derived.Test.YtgnfdplphpejaaaDoorClasses11
import Derived.Test.YtgnfdplphpejaaaDoorApart11
import Derived.Test.YtgnfdplphpejaaaDoorCut
import Derived.Test.YtgnfdplphpejaaaDoorEq11
namespace Go.Proofs.YtgnfdplphpejaaaDoor.Sc
open Go Go.RowKit Go.ChangeShapes Go.WideShapes Go.ChangeAt
set_option maxRecDepth 100000

/-- Do two of rest, or one of rest and one of seen, lie apart? -/
def apL : List Int → List Int → Bool
  | _, [] => false
  | seen, a :: r => seen.any (apartM a) || apL (seen ++ [a]) r
theorem apL_next {l : List Int} {k : Nat} (h : k < l.length) : apL (l.take k) (l.drop k) = ((l.take k).any (apartM l[k]) || apL (l.take (k + 1)) (l.drop (k + 1))) := by
  rw [List.drop_eq_getElem_cons h, apL, List.take_succ_eq_append_getElem h]
def togC (t : List Gd) (l : List Lt) : Int := if lotsC t l = 0 then (if apL [] (clsN t l 10) = true then 12 else 0) else lotsC t l
theorem inCells_flat (l : List Int) : inCells l = (l.map inRow).flatten := by
  induction l with
  | nil => rfl
  | cons a r ih => simp only [inCells, List.map_cons, List.flatten_cons, inRow, List.singleton_append] at *; rw [ih]
theorem own_ints {w : World} {B n : Nat} {v : Value} {l : List Int} (h : w.ownsRow B 3 1 v n (inCells l)) (hn : n = l.length) : Sl w 1 v (l.map inRow) := by
  rw [inCells_flat] at h
  exact own_sl h (by simpa using hn) (by
    intro r hr
    obtain ⟨d, _, rfl⟩ := List.mem_map.1 hr
    rfl)
theorem any_dropI {l : List Int} {k : Nat} (h : k < l.length) (f : Int → Bool) : (l.drop k).any f = (f l[k] || (l.drop (k + 1)).any f) := by rw [List.drop_eq_getElem_cons h, List.any_cons]
set_option maxHeartbeats 8000000 in
theorem together_any (t : List Gd) (l : List Lt) (bt bm : Nat) (v : Value) (w : World) (hap : ApT w) (hs : Sl w 2 v (l.map Lt.row)) (htab : Tab w bt bm t) (hn : (codes t).Nodup) (hok : ∀ g ∈ t, gdOk g = true) :
    Calls Tryd.prog 45 #[.pointer (some ⟨bt, 0, none⟩), v] w (Ret w (.int .i64 (togC t l))) := by
  have HKN := Lib.hid (known_any t l bt bm v w hs htab hn)
  have HCL := Lib.hid (fun W (hW : Below w.heap.size w W) => classes_any t l bt bm v W (hs.below hW (Nat.le_refl _)) (htab.below hW) hn hok)
  have HAP := Lib.hid (fun a b W (hW : Below w.heap.size w W) => apart_any a b W (hap.below hW))
  have HLEN := Lib.hid (clsN_len t l 10)
  clear hs htab hn hok hap
  by_cases h0 : lotsC t l = 0
  rotate_left
  · obtain ⟨e, he⟩ : ∃ e, e = lotsC t l := ⟨_, rfl⟩
    have HQ : Hid (togC t l = e) := Lib.hid (by rw [togC, if_neg h0, he])
    rw [← he] at HKN h0
    have te : (e != 0) = true := by simp [h0]
    clear h0 he
    go_enter Tryd.func45, Tryd.ntmps45
    go_wp2_with (first
      | ((with_reducible refine HKN.out.mono ?_); rintro e' w2 ⟨rfl, hb2⟩; have HB := Lib.hid hb2; clear hb2)
      | fail)
    go_ret
    exact ⟨by rw [HQ.out]; rfl, HB.out⟩
  have HV : Hid (togC t l = if apL [] (clsN t l 10) = true then 12 else 0) := Lib.hid (by rw [togC, if_pos h0])
  rw [h0] at HKN
  clear h0
  generalize clsN t l 10 = L at *
  go_enter Tryd.func45, Tryd.ntmps45
  go_wp2_with (first
    | ((with_reducible refine HKN.out.mono ?_); rintro e' w2 ⟨rfl, hb2⟩; have HB := Lib.hid hb2; clear hb2)
    | ((with_reducible refine (HCL.out _ HB.out).mono ?_); rintro e' w3 ⟨v3, rfl, ho3, hb3⟩; have HS3 := Lib.hid (own_ints ho3 rfl); obtain ⟨a3, c3, rfl⟩ : ∃ a c, v3 = .slice a L.length c := (by simpa using HS3.out.shape); have HB3 := Lib.hid (HB.out.trans (hb3.mono HB.out.size)); clear ho3 hb3)
    | fail)
  have hl10 := HLEN.out
  have HBW : Hid (Below w3.heap.size w3 w3) := Lib.hid (Below.refl _ _)
  go_loopw [7, 8, 10, 22, 29, 30, 31] (fun _ _ _ i _ _ _ wr => ∃ k : Nat, k ≤ L.length ∧ i = .int .i64 k ∧ apL [] L = apL (L.take k) (L.drop k) ∧ Below w3.heap.size w3 wr) (fun _ _ _ i _ _ _ _ => L.length - (intOf i).toNat)
  case atStart => exact ⟨0, Nat.zero_le _, rfl, rfl, HBW.out⟩
  case round =>
    obtain ⟨k, hk, rfl, hrel, hbel⟩ := hrel
    have HBEL := Lib.hid hbel
    by_cases hlt : k < L.length
    · obtain ⟨b, off, rfl, -, hb, hc⟩ := HS3.out.at (i := k) (by simpa using hlt)
      have hcell : ∀ j, (hj : j < L.length) → w3.cell? ⟨b, off + j, none⟩ = some (.int .i64 L[j]) := fun j hj => by
        have := hc j (inRow L[j]) (by simp [hj]) 0 _ rfl
        rwa [Nat.mul_one] at this
      have d0 := (hbel.cell (p := ⟨b, off + k, none⟩) hb).trans (hcell k hlt)
      have HCE := Lib.hid (fun W (hW : Below w3.heap.size w3 W) j (hj : j < L.length) => (hW.cell (p := ⟨b, off + j, none⟩) hb).trans (hcell j hj))
      rw [apL_next hlt] at hrel
      have HR := Lib.hid hrel
      have HK := Lib.hid hlt
      obtain ⟨i0, hi, -⟩ := info_parts infoIntC
      have hcap : k ≤ c3 := (Sl.take (m := k) HS3.out (by simpa using hk)).1
      have q1 : ∀ w, (Instr.slice 97 (.slice (some ⟨b, off, none⟩) L.length c3) none (some (.int .i64 (k : Int))) none).run Tryd.prog w = .ok (.slice (some ⟨b, off, none⟩) k c3) w := fun w => Any.run_slice_to Tryd.underlying97 hi _ _ c3 k hcap
      have tk : ((k : Nat) : Int) < (L.length : Int) := by omega
      generalize L[k] = x at *
      clear hc hcell hbel hrel hcap hi
      go_wp2_with fail
      generalize wr = w5 at *
      go_loopw [10, 31] (fun _ i wr => ∃ m : Nat, m ≤ k ∧ i = .int .i64 m ∧ (L.take k).any (apartM x) = ((L.take k).drop m).any (apartM x) ∧ Below w3.heap.size w3 wr) (fun _ i _ => k - (intOf i).toNat)
      case atStart => exact ⟨0, Nat.zero_le _, rfl, rfl, HBEL.out⟩
      case round =>
        obtain ⟨m, hm, rfl, hrel, hbel⟩ := hrel
        have HBM := Lib.hid hbel
        by_cases hlm : m < k
        · have hml : m < (L.take k).length := by rw [List.length_take]; omega
          rw [any_dropI hml] at hrel
          have hmL : m < L.length := by omega
          have e0 := HCE.out wr hbel m hmL
          have he : (L.take k)[m] = L[m] := List.getElem_take
          rw [he] at hrel
          generalize L[m] = y at *
          have HP := Lib.hid (fun W (hW : Below w3.heap.size w3 W) => HAP.out x y W (HB3.out.trans (hW.mono HB3.out.size)))
          have tm : ((m : Nat) : Int) < (k : Int) := by omega
          clear he hml hbel
          cases ha : apartM x y
          · rw [ha] at HP hrel
            have HRR := Lib.hid hrel
            clear ha hrel
            go_wp2_with (first
              | ((with_reducible refine (HP.out _ HBM.out).mono ?_); rintro e' w6 ⟨rfl, hb6⟩; have HB6 := Lib.hid (HBM.out.trans (hb6.mono HBM.out.size)); clear hb6)
              | fail)
            go_roundw
            case rel => exact ⟨m + 1, by omega, by go_num, by rw [HRR.out]; rfl, HB6.out⟩
            case measure => (simp [intOf]) <;> omega
          · rw [ha] at HP hrel
            have HQ : Hid (togC t l = 12) := Lib.hid (by rw [HV.out, if_pos]; rw [HR.out, hrel]; rfl)
            clear ha hrel
            go_wp2_with (first
              | ((with_reducible refine (HP.out _ HBM.out).mono ?_); rintro e' w6 ⟨rfl, hb6⟩; have HB6 := Lib.hid (HBM.out.trans (hb6.mono HBM.out.size)); clear hb6)
              | fail)
            go_ret
            exact ⟨by rw [HQ.out]; rfl, HB3.out.trans (HB6.out.mono HB3.out.size)⟩
        · have HRR : Hid (apL [] L = apL (L.take (k + 1)) (L.drop (k + 1))) := Lib.hid (by
            rw [HR.out, hrel, List.drop_of_length_le (by rw [List.length_take]; omega)]; rfl)
          clear hrel hbel
          go_wp2_with fail
          go_roundw
          case rel => exact ⟨k + 1, by have := HK.out; omega, by go_num, HRR.out, HBM.out⟩
          case measure => have := HK.out; (simp [intOf]) <;> omega
    · have HQ : Hid (togC t l = 0) := Lib.hid (by
        rw [HV.out, if_neg]
        rw [hrel, List.drop_of_length_le (by omega)]
        exact Bool.false_ne_true)
      clear hrel hbel
      go_wp2_with fail
      go_ret
      exact ⟨by rw [HQ.out]; rfl, HB3.out.trans (HBEL.out.mono HB3.out.size)⟩
end Go.Proofs.YtgnfdplphpejaaaDoor.Sc
