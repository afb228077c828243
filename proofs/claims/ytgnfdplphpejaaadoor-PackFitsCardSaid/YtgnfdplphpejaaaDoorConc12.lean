/- slices.Concat and slices.Equal at lots: by the program. -/
import Derived.Test.YtgnfdplphpejaaaDoorRising11
import Derived.Test.YtgnfdplphpejaaaDoorJoinB11
import Derived.Test.YtgnfdplphpejaaaDoorEq11
import Derived.Shelf.Abstract
import Derived.Test.YtgnfdplphpejaaaDoorLays12
namespace Go.Proofs.YtgnfdplphpejaaaDoor.Sc
open Go Go.RowKit Go.ChangeShapes Go.WideShapes Go.ChangeAt
set_option maxRecDepth 100000

abbrev Np := Value × List Lt
def NpAt (w : World) (v : Value) (L : List Np) : Prop := Sl w 1 v (L.map fun x => [x.1]) ∧ ∀ q ∈ L, Sl w 2 q.1 (q.2.map Lt.row)
def npSnd (L : List Np) : List (List Lt) := L.map Prod.snd
theorem lts_one (l : List Lt) : ∀ u ∈ ltCells l, u.oneCell' = true := by
  intro u hu
  obtain ⟨y, _, hy⟩ := List.mem_flatMap.1 hu
  simp only [Lt.row, List.mem_cons, List.not_mem_nil, or_false] at hy
  rcases hy with rfl | rfl <;> rfl
theorem push_below {w wr w1 : World} {e : TypeId} {sz n : Nat} {v : Value} {xs : List Value} (hbel : Below w.heap.size w wr) (hown : wr.ownsRow w.heap.size e sz v n xs) (hg : wr.grownBy w1 v.ownBlock) : Below w.heap.size w w1 :=
  hbel.grown hg hbel.size (fun k hk => (hown.lt k hk).1)

theorem growLots_any (n : Nat) (w : World) (hn : n ≤ 1000000) : Calls Tryd.prog 46 #[.slice none 0 0, .int .i64 (n : Int)] w (RetRow w 35 2 0 []) := by
  obtain ⟨i0, hi, hz, hsz, hby⟩ := info_parts infoLt
  by_cases h0 : n = 0
  · subst h0
    refine (Any8.slices_Grow_room Tryd.growLot none 0 0 0 w (Nat.le_refl _) (by decide) (by decide) (by decide)).mono ?_
    rintro e w' ⟨rfl, rfl⟩
    exact ⟨_, rfl, World.ownsRow_nil _ _ _ _, Below.refl _ _⟩
  · refine (Any8.slices_Grow_grow Tryd.growLot i0 _ hi hz (by omega) none 0 0 n [] w (Nat.le_refl _) (by omega) (by rw [hby]; omega) (by omega) (by simp) (fun _ => rfl) (fun a h => by cases h)).mono ?_
    rintro e w' ⟨rfl, rfl⟩
    refine ⟨_, rfl, ?_, ?_⟩
    · refine World.ownsRow_made w.drew _ _ (Nat.le_refl _) (grownCap_le_maxLen _ _ _ _ (by simp only [maxLen]; omega)) ?_
      have hge := grownCap_ge w (0 + n) 0 (Tryd.growLot_ren.t 25)
      simp only [Array.size_append, List.size_toArray, List.length_nil, size_zeroCells, Value.cells]
      simp only [List.length_cons, List.length_nil, Nat.zero_add, Nat.sub_zero]
      have hge' : n ≤ grownCap w (0 + n) 0 (Tryd.growLot_ren.t 25) := by simpa using hge
      simp only [Nat.zero_add] at hge' ⊢
      rw [← Nat.add_mul]
      congr 1
      omega
    · exact (Below.refl _ _).drew.alloc (Nat.le_refl _) _
def npTot (L : List Np) : Nat := (npSnd L).flatten.length
theorem npTot_drop {L : List Np} {k : Nat} (h : k < L.length) : npTot (L.drop k) = L[k].2.length + npTot (L.drop (k + 1)) := by
  unfold npTot npSnd
  rw [List.drop_eq_getElem_cons h, List.map_cons, List.flatten_cons, List.length_append]
theorem npFlat_take {L : List Np} {k : Nat} (h : k < L.length) : (npSnd (L.take (k + 1))).flatten = (npSnd (L.take k)).flatten ++ L[k].2 := by
  unfold npSnd
  rw [List.take_succ_eq_append_getElem h, List.map_append, List.flatten_append, List.map_cons, List.map_nil, List.flatten_cons, List.flatten_nil, List.append_nil]
theorem npTot_take {L : List Np} (k : Nat) : (npSnd (L.take k)).flatten.length + npTot (L.drop k) = npTot L := by
  unfold npTot npSnd
  rw [← List.length_append, ← List.flatten_append, ← List.map_append, List.take_append_drop]
set_option maxHeartbeats 8000000 in
theorem concat_any (L : List Np) (v : Value) (w : World) (h : NpAt w v L) (hl : npTot L ≤ 100000) :
    Calls Tryd.prog 23 #[v] w (RetRow w 35 2 (npTot L) (ltCells (npSnd L).flatten)) := by
  obtain ⟨a, c, rfl⟩ : ∃ a c, v = .slice a L.length c := by simpa using h.1.shape
  have hll : L.length ≤ 9223372036854775807 := by have := h.1.len_le; simp only [List.length_map, maxLen] at this; omega
  have HN := Lib.hid h
  have HL := Lib.hid hl
  obtain ⟨i0, hi, hz, hsz, hby⟩ := info_parts infoLt
  have HI := Lib.hid (And.intro hi (And.intro hz (And.intro hsz hby)))
  clear h hl hi hz hsz hby
  go_enter Tryd.func23, Tryd.ntmps23
  go_wp2_with fail
  go_loopw [3, 5, 11] (fun s _ i wr => ∃ k sN : Nat, k ≤ L.length ∧ i = .int .i64 k ∧ s = .int .i64 sN ∧ sN + npTot (L.drop k) = npTot L ∧ Below w.heap.size w wr) (fun _ _ i _ => L.length - (intOf i).toNat)
  case atStart => exact ⟨0, 0, Nat.zero_le _, rfl, rfl, by simp, Below.refl _ _⟩
  case round =>
    obtain ⟨k, sN, hk, rfl, rfl, hsum, hbel⟩ := hrel
    have HBEL := Lib.hid hbel
    by_cases hlt : k < L.length
    · obtain ⟨b, off, rfl, -, hb, hc⟩ := HN.out.1.at (i := k) (by simpa using hlt)
      have d0 := (hbel.cell (p := ⟨b, off + k * 1, none⟩) hb).trans (hc k [L[k].1] (by simp [hlt]) 0 _ rfl)
      rw [Nat.mul_one] at d0
      have hx := HN.out.2 L[k] (List.getElem_mem hlt)
      rw [npTot_drop hlt] at hsum
      generalize L[k] = x at *
      obtain ⟨xv, xl⟩ := x
      simp only at d0 hx hsum
      obtain ⟨ax, cx, rfl⟩ : ∃ a c, xv = .slice a xl.length c := by simpa using hx.shape
      have hsn : sN + xl.length ≤ 100000 := by have := HL.out; omega
      have ew : wrap64 ((sN : Int) + (xl.length : Int)) = (sN : Int) + (xl.length : Int) := wrap_q (by omega)
      have t1 : decide ((sN : Int) + (xl.length : Int) < 0) = false := decide_eq_false (by omega)
      have hxl : xl.length ≤ 9223372036854775807 := by omega
      have HS : Hid (sN + xl.length + npTot (L.drop (k + 1)) = npTot L) := Lib.hid (by omega)
      clear hb hc hbel hx hsum
      go_wp2_with fail
      go_roundw
      case rel => exact ⟨k + 1, sN + xl.length, by omega, by go_num, by go_num, HS.out, HBEL.out⟩
      case measure => (simp [intOf]) <;> omega
    · have HS : Hid (sN = npTot L) := Lib.hid (by rw [List.drop_of_length_le (by omega)] at hsum; simpa [npTot, npSnd] using hsum)
      have HG := Lib.hid (growLots_any sN wr (by rw [HS.out]; have := HL.out; omega))
      have hsn : sN ≤ 100000 := by rw [HS.out]; exact HL.out
      clear hbel hsum
      go_wp2_with (first
        | ((with_reducible refine HG.out.mono ?_); rintro e w1 ⟨v1, rfl, ho1, hb1⟩; have HB1 := Lib.hid (HBEL.out.trans (hb1.mono HBEL.out.size)); have HO1 := Lib.hid (ownsRow_base ho1 HBEL.out.size); clear ho1 hb1)
        | fail)
      go_loopw [6, 8, 27] (fun r _ i wr => ∃ k : Nat, k ≤ L.length ∧ i = .int .i64 k ∧ wr.ownsRow w.heap.size 35 2 r (npSnd (L.take k)).flatten.length (ltCells (npSnd (L.take k)).flatten) ∧ Below w.heap.size w wr) (fun _ _ i _ => L.length - (intOf i).toNat)
      case atStart => exact ⟨0, Nat.zero_le _, rfl, HO1.out, HB1.out⟩
      case round =>
        obtain ⟨k, hk, rfl, hown, hbel⟩ := hrel
        have HBEL2 := Lib.hid hbel
        have HOWN := Lib.hid hown
        have hkt := npTot_take (L := L) k
        by_cases hlt : k < L.length
        · obtain ⟨b, off, rfl, -, hb, hc⟩ := HN.out.1.at (i := k) (by simpa using hlt)
          have d0 := (hbel.cell (p := ⟨b, off + k * 1, none⟩) hb).trans (hc k [L[k].1] (by simp [hlt]) 0 _ rfl)
          rw [Nat.mul_one] at d0
          have hx := (HN.out.2 L[k] (List.getElem_mem hlt)).below hbel (Nat.le_refl _)
          have HFT := Lib.hid (npFlat_take hlt)
          rw [npTot_drop hlt] at hkt
          generalize L[k] = x at *
          obtain ⟨xv, xl⟩ := x
          simp only at d0 hx HFT hkt
          obtain ⟨ax, cx, rfl⟩ : ∃ a c, xv = .slice a xl.length c := by simpa using hx.shape
          have HSR := Lib.hid (Sl.src hx (lt_rows xl) (by decide))
          rw [List.length_map, ← ltCells_flat] at HSR
          have HONE : Hid (∀ u ∈ ltCells xl, u.oneCell' = true) := Lib.hid (lts_one xl)
          generalize (npSnd (L.take k)).flatten = A at *
          have HLE : Hid (A.length + xl.length ≤ maxLen ∧ (A.length + xl.length) * 24 ≤ 140737488355328 ∧ w.heap.size ≤ wr.heap.size) := Lib.hid (by have h1 := HL.out; have h2 := HBEL2.out.size; simp only [maxLen]; omega)
          clear hb hc hbel hown hx hkt
          go_wp2_with (first
            | ((with_reducible refine Any.wpl_cat ?_ ?_ ?_ Tryd.underlying23 HI.out.1 HI.out.2.1 HI.out.2.2.1 HI.out.2.2.2 ?_ (by decide) HOWN.out HSR.out ?_ HLE.out.1 HLE.out.2.1 HLE.out.2.2 ?_); rfl; rfl; rfl; rfl; exact HONE.out; intro v2 w2 hown2 hgrow2 hwho2
               have HO2 := Lib.hid hown2
               have HB2 := Lib.hid (push_below HBEL2.out HOWN.out hgrow2)
               clear hown2 hgrow2 hwho2)
            | fail)
          go_roundw
          case rel => exact ⟨k + 1, by omega, by go_num, by rw [HFT.out, List.length_append, ltCells_append]; exact HO2.out, HB2.out⟩
          case measure => (simp [intOf]) <;> omega
        · have HF : Hid (L.take k = L) := Lib.hid (List.take_of_length_le (by omega))
          clear hbel hown hkt
          go_wp2_with fail
          go_ret
          refine ⟨_, rfl, ?_, HBEL2.out⟩
          have := HOWN.out
          rw [HF.out] at this
          exact this
end Go.Proofs.YtgnfdplphpejaaaDoor.Sc
