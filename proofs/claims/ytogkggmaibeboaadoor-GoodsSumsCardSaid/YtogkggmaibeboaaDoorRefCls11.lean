/- The reference's classes. -/
import Derived.Test.YtogkggmaibeboaaDoorRefSum11
import Derived.Test.YtogkggmaibeboaaDoorTog11
namespace Go.Proofs.YtogkggmaibeboaaDoor.Sc
open Go Go.RowKit Go.ChangeShapes Go.WideShapes Go.ChangeAt
set_option maxRecDepth 100000

set_option maxHeartbeats 8000000 in
theorem refClasses_any (t : List Gd) (l : List Lt) (vt v : Value) (w : World) (hst : Sl w 4 vt (t.map Gd.row)) (hs : Sl w 2 v (l.map Lt.row)) :
    Calls Tryd.prog 33 #[vt, v] w (RetRow w 3 1 (clsN t l 10).length (inCells (clsN t l 10))) := by
  have hll : l.length ≤ 9223372036854775807 := by have := hs.len_le; simp only [List.length_map, maxLen] at this; omega
  have HFI := Lib.hid (fun n W (hW : Below w.heap.size w W) => gFind_any t n vt W (hst.below hW (Nat.le_refl _)))
  obtain ⟨a, c, rfl⟩ : ∃ a c, v = .slice a l.length c := by simpa using hs.shape
  obtain ⟨at', ct, rfl⟩ : ∃ a c, vt = .slice a t.length c := by simpa using hst.shape
  obtain ⟨i0, hi, hz, hsz, hby⟩ := info_parts infoIntC
  have HI := Lib.hid (And.intro hi (And.intro hz (And.intro hsz hby)))
  clear hi hz hsz hby
  have HS := Lib.hid hs
  have HST := Lib.hid hst
  clear hs hst
  go_enter Tryd.func33, Tryd.ntmps33
  go_wp2_with fail
  go_loopw [5, 6, 7, 8, 9] (fun o i _ _ _ wr => ∃ d : Nat, d ≤ 10 ∧ i = .int .i64 d ∧ wr.ownsRow w.heap.size 3 1 o (clsN t l d).length (inCells (clsN t l d)) ∧ Below w.heap.size w wr) (fun _ i _ _ _ _ => 10 - (intOf i).toNat)
  case atStart => exact ⟨0, by omega, rfl, own_empty (Nat.le_refl _), one_below _ _⟩
  case round =>
    obtain ⟨d, hd, rfl, hown, hbel⟩ := hrel
    have HBEL := Lib.hid hbel
    have HOWN := Lib.hid hown
    by_cases hd10 : d < 10
    · have td : ((d : Nat) : Int) < 10 := by omega
      have HN := Lib.hid (clsN_succ t l d)
      have HLN := Lib.hid (clsN_len t l d)
      clear hown hbel
      go_wp2_with fail
      generalize wr = w5 at *
      go_loopw [7, 8, 9] (fun f i _ wr => ∃ k : Nat, k ≤ l.length ∧ i = .int .i64 k ∧ f = .bool (hasC t (l.take k) d) ∧ Below w5.heap.size w5 wr) (fun _ i _ _ => l.length - (intOf i).toNat)
      case atStart => exact ⟨0, Nat.zero_le _, rfl, rfl, Below.refl _ _⟩
      case round =>
        obtain ⟨k, hk, rfl, rfl, hbel⟩ := hrel
        have HB5 := Lib.hid hbel
        have HB := Lib.hid (HBEL.out.trans (hbel.mono HBEL.out.size))
        by_cases hlt : k < l.length
        · obtain ⟨b, off, rfl, -, hb, hc⟩ := HS.out.at (i := k) (by simpa using hlt)
          have d0 := (HB.out.cell (p := ⟨b, off + k * 2, none⟩) hb).trans (hc k l[k].row (by simp [hlt]) 0 _ rfl)
          have tk : ((k : Nat) : Int) < (l.length : Int) := by omega
          have hnx := hasC_next (t := t) hlt d
          unfold isC at hnx
          generalize l[k] = x at *
          obtain ⟨xn, xc⟩ := x
          simp only at d0 hnx
          have HFX := Lib.hid (HFI.out xn)
          clear hc hb hbel
          generalize hasC t (l.take k) d = p at *
          rcases gFind_of xn t 0 with ⟨h1, h2⟩ | ⟨j, hj, h1, h2⟩
          · rw [h1] at HFX
            rw [h2, Bool.or_false] at hnx
            have HNX := Lib.hid hnx
            clear h1 h2 hnx
            go_wp2_with (first
              | ((with_reducible refine (HFX.out _ HB.out).mono ?_); rintro e w3 ⟨rfl, hb3⟩; have HB3 := Lib.hid (HB5.out.trans (hb3.mono HB5.out.size)); clear hb3)
              | fail)
            go_roundw
            case rel => exact ⟨k + 1, by omega, by go_num, by rw [HNX.out], HB3.out⟩
            case measure => (simp [intOf]) <;> omega
          · rw [h1, Nat.zero_add] at HFX
            rw [h2] at hnx
            obtain ⟨bg, offg, rfl, -, hbg, hcg⟩ := HST.out.at (i := j) (by simpa using hj)
            have hrj : (t.map Gd.row)[j]? = some t[j].row := by rw [List.getElem?_map, List.getElem?_eq_getElem hj]; rfl
            have HDG : Hid (∀ W, Below w.heap.size w W → W.cell? ⟨bg, offg + j * 4 + 1, none⟩ = some (.int .i64 t[j].cls)) := Lib.hid (fun W hW =>
              (hW.cell (p := ⟨bg, offg + j * 4 + 1, none⟩) hbg).trans (hcg j _ hrj 1 _ rfl))
            have tj : ((j : Nat) : Int) < (t.length : Int) := by omega
            clear hcg hrj h1 h2 hbg
            generalize t[j] = y at *
            obtain ⟨gn, gc, gw, gv⟩ := y
            simp only at HDG hnx
            by_cases he : gc = (d : Int)
            · rw [decide_eq_true he, Bool.or_true] at hnx
              have HNX := Lib.hid hnx
              subst he
              clear hnx
              go_wp2_with (first
                | ((with_reducible refine (HFX.out _ HB.out).mono ?_); rintro e w3 ⟨rfl, hb3⟩; have HB3 := Lib.hid (HB5.out.trans (hb3.mono HB5.out.size)); have y1 := HDG.out w3 (HBEL.out.trans (HB3.out.mono HBEL.out.size)); clear hb3)
                | fail)
              go_roundw
              case rel => exact ⟨k + 1, by omega, by go_num, by rw [HNX.out], HB3.out⟩
              case measure => (simp [intOf]) <;> omega
            · rw [decide_eq_false he, Bool.or_false] at hnx
              have te : (gc == (d : Int)) = false := by simp [he]
              have HNX := Lib.hid hnx
              clear hnx he
              go_wp2_with (first
                | ((with_reducible refine (HFX.out _ HB.out).mono ?_); rintro e w3 ⟨rfl, hb3⟩; have HB3 := Lib.hid (HB5.out.trans (hb3.mono HB5.out.size)); have y1 := HDG.out w3 (HBEL.out.trans (HB3.out.mono HBEL.out.size)); clear hb3)
                | fail)
              go_roundw
              case rel => exact ⟨k + 1, by omega, by go_num, by rw [HNX.out], HB3.out⟩
              case measure => (simp [intOf]) <;> omega
        · obtain rfl : k = l.length := by omega
          rw [List.take_length]
          have HO5 := Lib.hid (ownsRow_below HOWN.out HB5.out)
          have HL : Hid ((clsN t l d).length + 1 ≤ maxLen ∧ ((clsN t l d).length + 1) * 8 ≤ 140737488355328 ∧ w.heap.size ≤ wr.heap.size) := Lib.hid (by have h1 := HLN.out; have h2 := HB.out.size; simp only [maxLen]; omega)
          clear hbel
          cases hc : hasC t l d
          · rw [hc] at HN
            clear hc
            go_wp2_with fail
            go_roundw
            case rel => exact ⟨d + 1, by omega, by go_num, by rw [HN.out]; simpa using HO5.out, HB.out⟩
            case measure => (simp [intOf]) <;> omega
          · rw [hc] at HN
            clear hc
            go_wp2_with (first
              | ((with_reducible refine Any.wpl_push ?_ ?_ ?_ Tryd.underlying51 HI.out.1 HI.out.2.1 HI.out.2.2.1 HI.out.2.2.2 ?_ (by decide) ?_ (int_one (d : Int)) (HO5.out) HL.out.1 HL.out.2.1 HL.out.2.2 ?_); rfl; rfl; rfl; rfl; rfl; intro v3 w3 hown3 hgrow3 hwho3)
              | fail)
            have HB6 := Lib.hid (HB.out.grown hgrow3 HB.out.size (fun b hb => (HO5.out.lt b hb).1))
            have HO6 := Lib.hid hown3
            clear hown3 hgrow3 hwho3
            go_roundw
            case rel => exact ⟨d + 1, by omega, by go_num, by rw [HN.out, if_pos rfl, List.length_append]; simpa [inCells] using HO6.out, HB6.out⟩
            case measure => (simp [intOf]) <;> omega
    · obtain rfl : d = 10 := by omega
      clear hown hbel
      go_wp2_with fail
      go_ret
      exact retRow HOWN.out (Nat.le_refl _) HBEL.out
end Go.Proofs.YtogkggmaibeboaaDoor.Sc
