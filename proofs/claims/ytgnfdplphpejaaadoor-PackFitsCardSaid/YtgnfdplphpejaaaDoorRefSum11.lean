/- The reference's sums. -/
import Derived.Test.YtgnfdplphpejaaaDoorWeigh11
namespace Go.Proofs.YtgnfdplphpejaaaDoor.Sc
open Go Go.RowKit Go.ChangeShapes Go.WideShapes Go.ChangeAt
set_option maxRecDepth 100000

theorem gFind_no {t : List Gd} {n : ByteArray} : decide (gFind n 0 t < 0) = (gOf t n).isNone := by
  rcases gFind_of n t 0 with ⟨h1, h2⟩ | ⟨j, hj, h1, h2⟩
  · rw [h1, h2]; rfl
  · rw [h1, h2, Nat.zero_add]
    exact decide_eq_false (by omega)
set_option maxHeartbeats 8000000 in
theorem there_any (t : List Gd) (l : List Lt) (vt v : Value) (w : World) (hst : Sl w 4 vt (t.map Gd.row)) (hs : Sl w 2 v (l.map Lt.row)) (hf : ∀ x ∈ l, x.fit) :
    Calls Tryd.prog 27 #[vt, v] w (Ret w (.int .i64 (lotsC t l))) := by
  have hll : l.length ≤ 9223372036854775807 := by have := hs.len_le; simp only [List.length_map, maxLen] at this; omega
  obtain ⟨a, c, rfl⟩ : ∃ a c, v = .slice a l.length c := by simpa using hs.shape
  have HS := Lib.hid hs
  have HFT := Lib.hid hf
  have HFI := Lib.hid (fun n W (hW : Below w.heap.size w W) => gFind_any t n vt W (hst.below hW (Nat.le_refl _)))
  obtain ⟨f, hff⟩ : ∃ f : Lt → Bool, f = fun x => !lotOk x := ⟨_, rfl⟩
  obtain ⟨g, hgg⟩ : ∃ g : Lt → Bool, g = noG t := ⟨_, rfl⟩
  have HTC0 : Hid (lotsC t l = if l.any f = true then 1 else if l.any g = true then 4 else 0) := Lib.hid (by rw [hff, hgg, lotsC])
  have HFF : Hid (∀ x, f x = !lotOk x) := Lib.hid (fun x => by rw [hff])
  have HGF : Hid (∀ x, g x = (gOf t x.good).isNone) := Lib.hid (fun x => by rw [hgg]; rfl)
  clear hs hst hf hff hgg
  go_enter Tryd.func27, Tryd.ntmps27
  go_wp2_with fail
  go_loopw [5] (fun i wr => ∃ k : Nat, k ≤ l.length ∧ i = .int .i64 k ∧ l.any f = (l.drop k).any f ∧ Below w.heap.size w wr) (fun i _ => l.length - (intOf i).toNat)
  case atStart => exact ⟨0, Nat.zero_le _, rfl, rfl, Below.refl _ _⟩
  case round =>
    obtain ⟨k, hk, rfl, hrel, hbel⟩ := hrel
    have HBEL := Lib.hid hbel
    by_cases hlt : k < l.length
    · obtain ⟨b, off, rfl, -, hb, hc⟩ := HS.out.at (i := k) (by simpa using hlt)
      have d0 := (hbel.cell (p := ⟨b, off + k * 2, none⟩) hb).trans (hc k l[k].row (by simp [hlt]) 0 _ rfl)
      have d1 := (hbel.cell (p := ⟨b, off + k * 2 + 1, none⟩) hb).trans (hc k l[k].row (by simp [hlt]) 1 _ rfl)
      rw [any_nextL hlt, HFF.out] at hrel
      have hfx := (HFT.out l[k] (List.getElem_mem hlt)).good
      have tk : ((k : Nat) : Int) < (l.length : Int) := by omega
      generalize l[k] = x at *
      obtain ⟨xn, xc⟩ := x
      simp only at d0 d1 hfx
      have MAY := Lib.hid (fun W => refLot_any ⟨xn, xc⟩ W hfx)
      simp only [Lt.val] at MAY
      clear hc hbel hfx
      cases ho : lotOk ⟨xn, xc⟩
      · rw [ho] at MAY hrel
        have HQ : Hid (lotsC t l = 1) := Lib.hid (by rw [HTC0.out, if_pos (by rw [hrel]; rfl)])
        clear ho hrel
        go_wp2_with (first
          | ((with_reducible refine (MAY.out _).mono ?_); rintro e w2 ⟨rfl, hb2⟩; have HB2 := Lib.hid (HBEL.out.trans (hb2.mono HBEL.out.size)); clear hb2)
          | fail)
        go_ret
        exact ⟨by rw [HQ.out]; rfl, HB2.out⟩
      · rw [ho] at MAY hrel
        have HR := Lib.hid hrel
        clear ho hrel
        go_wp2_with (first
          | ((with_reducible refine (MAY.out _).mono ?_); rintro e w2 ⟨rfl, hb2⟩; have HB2 := Lib.hid (HBEL.out.trans (hb2.mono HBEL.out.size)); clear hb2)
          | fail)
        go_roundw
        case rel => exact ⟨k + 1, by omega, by go_num, by rw [HR.out]; rfl, HB2.out⟩
        case measure => (simp [intOf]) <;> omega
    · have HTC1 : Hid (lotsC t l = if l.any g = true then 4 else 0) := Lib.hid (by
        rw [HTC0.out, if_neg]
        rw [hrel, List.drop_of_length_le (by omega)]; exact Bool.false_ne_true)
      clear hrel hbel
      go_wp2_with fail
      go_loopw [6] (fun i wr => ∃ k : Nat, k ≤ l.length ∧ i = .int .i64 k ∧ l.any g = (l.drop k).any g ∧ Below w.heap.size w wr) (fun i _ => l.length - (intOf i).toNat)
      case atStart => exact ⟨0, Nat.zero_le _, rfl, rfl, HBEL.out⟩
      case round =>
        obtain ⟨k, hk, rfl, hrel, hbel⟩ := hrel
        have HBEL := Lib.hid hbel
        by_cases hlt : k < l.length
        · obtain ⟨b, off, rfl, -, hb, hc⟩ := HS.out.at (i := k) (by simpa using hlt)
          have d0 := (hbel.cell (p := ⟨b, off + k * 2, none⟩) hb).trans (hc k l[k].row (by simp [hlt]) 0 _ rfl)
          rw [any_nextL hlt, HGF.out] at hrel
          have tk : ((k : Nat) : Int) < (l.length : Int) := by omega
          generalize l[k] = x at *
          obtain ⟨xn, xc⟩ := x
          simp only at d0 hrel
          have hno := gFind_no (t := t) (n := xn)
          have HFX := Lib.hid (HFI.out xn)
          generalize gFind xn 0 t = m at *
          clear hc hbel
          cases hgo : (gOf t xn).isNone
          · rw [hgo] at hno hrel
            have HR := Lib.hid hrel
            clear hgo hrel
            go_wp2_with (first
              | ((with_reducible refine (HFX.out _ HBEL.out).mono ?_); rintro e w2 ⟨rfl, hb2⟩; have HB2 := Lib.hid (HBEL.out.trans (hb2.mono HBEL.out.size)); clear hb2)
              | fail)
            go_roundw
            case rel => exact ⟨k + 1, by omega, by go_num, by rw [HR.out]; rfl, HB2.out⟩
            case measure => (simp [intOf]) <;> omega
          · rw [hgo] at hno hrel
            have HQ : Hid (lotsC t l = 4) := Lib.hid (by rw [HTC1.out, if_pos]; rw [hrel]; rfl)
            clear hgo hrel
            go_wp2_with (first
              | ((with_reducible refine (HFX.out _ HBEL.out).mono ?_); rintro e w2 ⟨rfl, hb2⟩; have HB2 := Lib.hid (HBEL.out.trans (hb2.mono HBEL.out.size)); clear hb2)
              | fail)
            go_ret
            exact ⟨by rw [HQ.out]; rfl, HB2.out⟩
        · have HE : Hid (lotsC t l = 0) := Lib.hid (by
            rw [HTC1.out, if_neg]
            rw [hrel, List.drop_of_length_le (by omega)]
            exact Bool.false_ne_true)
          clear hbel hrel
          go_wp2_with fail
          go_ret
          exact ⟨by rw [HE.out]; rfl, HBEL.out⟩
end Go.Proofs.YtgnfdplphpejaaaDoor.Sc
