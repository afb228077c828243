/- Lists of boxes: by the program. -/
import Derived.Test.YtgnfdplphpejaaaGreatDoorLsA12
import Derived.Test.YtgnfdplphpejaaaGreatDoorBldS12
import Derived.Test.YtgnfdplphpejaaaGreatDoorAnyLast
import Derived.Test.YtgnfdplphpejaaaGreatDoorGuard
namespace Go.Proofs.YtgnfdplphpejaaaGreatDoor.Sc
open Go Go.RowKit Go.ChangeShapes Go.WideShapes Go.ChangeAt Go.Shelf
set_option maxRecDepth 100000
theorem byteCells_append (a b : List UInt8) : Lib.byteCells (a ++ b) = Lib.byteCells a ++ Lib.byteCells b := by simp [Lib.byteCells]
theorem builder_below {T e : TypeId} {B b : Nat} {p : Value} {bs : List Value} {w w' : World} (h : Lib.BuilderAt T e B b p bs w) (hb : Below w.heap.size w w') : Lib.BuilderAt T e B b p bs w' := by
  obtain ⟨h1, v, h2, h3, h4⟩ := h
  exact ⟨h1, v, blk hb (lt_blk h2) h2, ownsRow_below h3 hb, h4⟩
theorem isBuilder_below {T e : TypeId} {B b : Nat} {bs : List Value} {w w' : World} (h : Lib.IsBuilder T e B b bs w) (hb : Below w.heap.size w w') : Lib.IsBuilder T e B b bs w' := h.imp (builder_below · hb) (builder_below · hb)
theorem strCells_txt (l : List UInt8) : Lib.strCells (txt l) = Lib.byteCells l := by
  simp [Lib.strCells, Lib.byteCells, txt]
theorem u8_one (c : Int) : ∀ u ∈ (#[Value.int .u8 c] : Array Value).toList, u.oneCell' = true := by
  intro u hu
  simp at hu
  subst hu
  rfl
set_option maxHeartbeats 1000000 in
theorem writeByte_any (B b : Nat) (bs : List Value) (c : Int) (w : World) (h : Lib.IsBuilder 76 5 B b bs w) (hlen : bs.length + 1 ≤ 140737488355328) (hBw : B ≤ w.heap.size) :
    Calls Tryz.prog 47 #[.pointer (some ⟨b, 0, none⟩), .int .u8 c] w fun e w' => e = .returned .nilIface ∧ (Lib.BuilderAt 76 5 B b (.pointer (some ⟨b, 0, none⟩)) (bs ++ [.int .u8 c]) w' ∧ Below B w w') := by
  have hinfo := info_parts Tryz.Builder_Extra_169.infoByte
  obtain ⟨i0, hi, hz0, hz1, hz2⟩ := hinfo
  have HI := Lib.hid (And.intro (show Tryz.prog.info? 5 = some i0 from hi) (And.intro hz0 (And.intro hz1 hz2)))
  clear hi hz0 hz1 hz2
  go_enter Tryz.func47, Tryz.ntmps47
  have HH := Lib.hid h
  clear h
  go_wp2_with (first
    | (refine (copyCheck_any B b bs _ HH.out).mono ?_
       rintro e w1 ⟨rfl, ⟨hB, v, hbk, hown, hne⟩, hb1⟩
       have c0 : w1.cell? ⟨b, 0, none⟩ = some (.pointer (some ⟨b, 0, none⟩)) := by rw [Lib.cell_of_heap hbk]; rfl
       have c1 : w1.cell? ⟨b, 1, none⟩ = some v := by rw [Lib.cell_of_heap hbk]; rfl
       have HL := Lib.hid (show bs.length + 1 ≤ maxLen ∧ (bs.length + 1) * 1 ≤ 140737488355328 ∧ B ≤ w1.heap.size from ⟨by unfold maxLen; omega, by omega, by have := hb1.size; omega⟩)
       have HOWN := Lib.hid hown
       have HQ := Lib.hid (And.intro hB (And.intro hbk (And.intro hown (And.intro hne hb1))))
       clear hB hbk hown hne hb1)
    | (((with_reducible refine Any.wpl_push ?_ ?_ ?_ Tryz.underlying74 HI.out.1 HI.out.2.1 HI.out.2.2.1 HI.out.2.2.2 ?_ (by decide) ?_ ((u8_one c)) (HOWN.out) HL.out.1 HL.out.2.1 HL.out.2.2 ?_); rfl; rfl; rfl; rfl; rfl; intro v2 w2 hown2 hgrow2 hwho2)
       obtain ⟨hB, hbk, hown, hne, hb1⟩ := HQ.out
       have hlt := lt_blk hbk
       have hb2 : w2.heap[b]? = some (.cells #[.pointer (some ⟨b, 0, none⟩), v] 76 (0, 0)) := by
         rw [hgrow2.block b hlt (fun e => hne e.symm)]
         exact hbk
       have d0 : w2.cell? ⟨b, 0, none⟩ = some (.pointer (some ⟨b, 0, none⟩)) := by rw [Lib.cell_of_heap hb2]; rfl
       have d1 : w2.cell? ⟨b, 1, none⟩ = some v := by rw [Lib.cell_of_heap hb2]; rfl
       have f1 : w2.frozen? ⟨b, 1, none⟩ = false := Lib.frozen_of_heap hb2 1
       obtain ⟨ao, n', cap, rfl⟩ : ∃ ao n' cap, v2 = .slice ao n' cap := by
         rcases hown2.2 with ⟨hv, _⟩ | ⟨g, cap, cur, hv, _⟩
         · exact ⟨_, _, _, hv⟩
         · exact ⟨_, _, _, hv⟩
       have HO := Lib.hid (And.intro hown2 (And.intro hgrow2 hb2))
       clear hB hbk hown hne hb1 hown2 hgrow2 hwho2 hb2)
    | fail)
  go_ret
  obtain ⟨hB, hbk, hown, hne, hb1⟩ := HQ.out
  obtain ⟨hown', hgrow, hb2⟩ := HO.out
  refine ⟨rfl, ?_, ?_⟩
  · exact Lib.BuilderAt.put (T := 76) (e := 5) hB hb2 (bs' := bs ++ [.int .u8 c]) (by simpa using hown') (by decide)
  · exact (hb1.grown hgrow (by have := hb1.size; omega) (fun k hk => (hown.lt k hk).1)).setCell (p := ⟨b, 1, none⟩) hB _
theorem size_any (k : Int) (w : World) : Calls Tryz.prog 48 #[.int .i64 k] w (Ret w (.string (txt (sizeT k)))) := by
  have hv : sizeT k = if k = 0 then [115, 109, 97, 108, 108] else if k = 1 then [108, 97, 114, 103, 101] else [111, 116, 104, 101, 114] := rfl
  by_cases h0 : k = 0
  · subst h0
    go_enter Tryz.func48, Tryz.ntmps48
    go_wp2
    go_ret
    exact ⟨rfl, Below.refl _ _⟩
  · rw [if_neg h0] at hv
    have t0 : (k == 0) = false := by simp [h0]
    by_cases h1 : k = 1
    · subst h1
      go_enter Tryz.func48, Tryz.ntmps48
      go_wp2
      go_ret
      exact ⟨rfl, Below.refl _ _⟩
    · rw [if_neg h1] at hv
      have t1 : (k == 1) = false := by simp [h1]
      have HV := Lib.hid hv
      clear h0 h1 hv
      go_enter Tryz.func48, Tryz.ntmps48
      go_wp2
      go_ret
      exact ⟨by rw [HV.out]; rfl, Below.refl _ _⟩
end Go.Proofs.YtgnfdplphpejaaaGreatDoor.Sc
