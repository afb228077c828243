/- strings.Builder: WriteString: told plainly. Lists of boxes: by the program. strings.Builder: a row of lots stays; the closure of List. -/
import Derived.Test.YtbigoifpfkdkjaaGreatDoorTd31
import Derived.Test.YtbigoifpfkdkjaaGreatDoorTd01
import Derived.Test.YtbigoifpfkdkjaaGreatDoorTd30
import Derived.Test.YtbigoifpfkdkjaaGreatDoorTd21
import Derived.Test.YtbigoifpfkdkjaaGreatDoorTd41
import Derived.Test.YtbigoifpfkdkjaaGreatDoorTd20
import Derived.Test.YtbigoifpfkdkjaaGreatDoorTd11
import Derived.Lib.Builder
namespace Go.Proofs.YtbigoifpfkdkjaaGreatDoor.Sc
open Go Go.RowKit Go.ChangeShapes Go.WideShapes Go.ChangeAt Go.Shelf
set_option maxRecDepth 100000

theorem sizeBld : (Tryz.prog.info? 261).map (·.size) = some 2 := by kernel_rfl
set_option maxHeartbeats 1000000 in
theorem copyCheck_used (b : Nat) (w : World) (h0 : w.cell? ⟨b, 0, none⟩ = some (.pointer (some ⟨b, 0, none⟩))) :
    Calls Tryz.prog 205 #[.pointer (some ⟨b, 0, none⟩)] w fun e w' => e = .returned (.tuple #[]) ∧ w' = w := by
  obtain ⟨j, hj, _⟩ := Option.map_eq_some_iff.1 sizeBld
  go_enter Tryz.func205, Tryz.ntmps205
  go_wp2
  rw [Lib.run_neq_ptr_same w _ Tryz.underlying258 hj]
  go_wp2
  go_end0
  exact ⟨rfl, rfl⟩
set_option maxHeartbeats 1000000 in
theorem copyCheck_fresh (b : Nat) (w : World) (h0 : w.cell? ⟨b, 0, none⟩ = some (.pointer none)) (hsh : w.shape? b = some (261, 2)) (hfz : w.frozen? ⟨b, 0, none⟩ = false) :
    Calls Tryz.prog 205 #[.pointer (some ⟨b, 0, none⟩)] w fun e w' => e = .returned (.tuple #[]) ∧ w' = w.setCell ⟨b, 0, none⟩ (.pointer (some ⟨b, 0, none⟩)) := by
  obtain ⟨j, hj, hjs⟩ := Option.map_eq_some_iff.1 sizeBld
  go_enter Tryz.func205, Tryz.ntmps205
  go_wp2
  rw [Lib.run_to_unsafe w ⟨b, 0, none⟩ Tryz.underlying258 Tryz.underlying301 hj (by rw [hjs]; decide) hsh (Nat.zero_lt_succ 1)]
  simp only [Result.andThen]
  rw [Oper.upon_value]
  go_wp2
  rw [run_callFunc_extern Tryz.func228 (by kernel_rfl) (by kernel_rfl) (by kernel_rfl) (e := Extern.AbiNoEscape.same) (by kernel_rfl)]
  rw [Lib.run_noEscape]
  simp only [Result.andThen]
  rw [Oper.upon_value]
  go_wp2
  rw [Lib.run_from_unsafe w ⟨b, 0, none⟩ Tryz.underlying301 Tryz.underlying258 hj hsh Tryz.Builder_Extra_169.liesBuilder]
  simp only [Result.andThen]
  rw [Oper.upon_value]
  go_wp2
  go_end0
  exact ⟨rfl, rfl⟩
theorem copyCheck_any (B b : Nat) (bs : List Value) (w : World) (h : Lib.IsBuilder 261 5 B b bs w) :
    Calls Tryz.prog 205 #[.pointer (some ⟨b, 0, none⟩)] w fun e w' => e = .returned (.tuple #[]) ∧ (Lib.BuilderAt 261 5 B b (.pointer (some ⟨b, 0, none⟩)) bs w' ∧ Below B w w') := by
  rcases h with h | h
  · refine (copyCheck_fresh b w h.cell0 h.shape h.frozen0).mono ?_
    rintro e w' ⟨rfl, rfl⟩
    exact ⟨rfl, h.used _, (Below.refl B w).setCell (p := ⟨b, 0, none⟩) h.1 _⟩
  · refine (copyCheck_used b w h.cell0).mono ?_
    rintro e w' ⟨rfl, rfl⟩
    exact ⟨rfl, h, Below.refl _ _⟩
set_option maxHeartbeats 1000000 in
theorem writeString_any (B b : Nat) (bs : List Value) (s : ByteArray) (w : World) (h : Lib.IsBuilder 261 5 B b bs w) (hlen : bs.length + s.size ≤ 140737488355328) (hBw : B ≤ w.heap.size) :
    Calls Tryz.prog 181 #[.pointer (some ⟨b, 0, none⟩), .string s] w fun e w' => e = .returned (.tuple #[.int .i64 s.size, .nilIface]) ∧ (Lib.BuilderAt 261 5 B b (.pointer (some ⟨b, 0, none⟩)) (bs ++ Lib.strCells s) w' ∧ Below B w w') := by
  obtain ⟨i0, hi, hz0, hz1, hz2⟩ := info_parts Tryz.Builder_Extra_169.infoByte
  go_enter Tryz.func181, Tryz.ntmps181
  have HH := Lib.hid h
  clear h
  go_wp2_with (first
    | (refine (copyCheck_any B b bs _ HH.out).mono ?_
       rintro e w1 ⟨rfl, ⟨hB, v, hbk, hown, hne⟩, hb1⟩
       have c0 : w1.cell? ⟨b, 0, none⟩ = some (.pointer (some ⟨b, 0, none⟩)) := by rw [Lib.cell_of_heap hbk]; rfl
       have c1 : w1.cell? ⟨b, 1, none⟩ = some v := by rw [Lib.cell_of_heap hbk]; rfl
       have HQ := Lib.hid (And.intro hB (And.intro hbk (And.intro hown (And.intro hne hb1))))
       clear hB hbk hown hne hb1)
    | (refine Lib.wpList_append_own_string _ rfl _ _ 259 9 rfl B 5 i0 Tryz.underlying259 Tryz.underlying9 hi hz0 hz1 hz2 _ _ _ rfl HQ.out.2.2.1 s rfl (by unfold maxLen; omega) (by omega) (by have := HQ.out.2.2.2.2.size; omega) ?_
       intro v' w2 hown' hgrow _
       obtain ⟨hB, hbk, hown, hne, hb1⟩ := HQ.out
       have hlt := lt_blk hbk
       have hb2 : w2.heap[b]? = some (.cells #[.pointer (some ⟨b, 0, none⟩), v] 261 (0, 0)) := by
         rw [hgrow.block b hlt (fun e => hne e.symm)]
         exact hbk
       have d0 : w2.cell? ⟨b, 0, none⟩ = some (.pointer (some ⟨b, 0, none⟩)) := by rw [Lib.cell_of_heap hb2]; rfl
       have d1 : w2.cell? ⟨b, 1, none⟩ = some v := by rw [Lib.cell_of_heap hb2]; rfl
       have f1 : w2.frozen? ⟨b, 1, none⟩ = false := Lib.frozen_of_heap hb2 1
       obtain ⟨ao, n', cap, rfl⟩ : ∃ ao n' cap, v' = .slice ao n' cap := by
         rcases hown'.2 with ⟨hv, _⟩ | ⟨g, cap, cur, hv, _⟩
         · exact ⟨_, _, _, hv⟩
         · exact ⟨_, _, _, hv⟩
       have HO := Lib.hid (And.intro hown' (And.intro hgrow hb2))
       clear hB hbk hown hne hb1 hown' hgrow hb2)
    | fail)
  go_ret2
  obtain ⟨hB, hbk, hown, hne, hb1⟩ := HQ.out
  obtain ⟨hown', hgrow, hb2⟩ := HO.out
  refine ⟨rfl, ?_, ?_⟩
  · exact Lib.BuilderAt.put (T := 261) (e := 5) hB hb2 (bs' := bs ++ Lib.strCells s) (by simpa [Lib.strCells_length] using hown') (by decide)
  · exact (hb1.grown hgrow (by have := hb1.size; omega) (fun k hk => (hown.lt k hk).1)).setCell (p := ⟨b, 1, none⟩) hB _
end Go.Proofs.YtbigoifpfkdkjaaGreatDoor.Sc
namespace Go.Proofs.YtbigoifpfkdkjaaGreatDoor.Sc
open Go Go.RowKit Go.ChangeShapes Go.WideShapes Go.ChangeAt Go.Shelf
set_option maxRecDepth 100000
theorem byteCells_append (a b : List UInt8) : Lib.byteCells (a ++ b) = Lib.byteCells a ++ Lib.byteCells b := by simp [Lib.byteCells]
theorem builder_below {T e : TypeId} {B b : Nat} {p : Value} {bs : List Value} {w w' : World} (h : Lib.BuilderAt T e B b p bs w) (hb : Below w.heap.size w w') : Lib.BuilderAt T e B b p bs w' := by
  obtain ⟨h1, v, h2, h3, h4⟩ := h
  exact ⟨h1, v, blk hb (lt_blk h2) h2, ownsRow_below h3 hb, h4⟩
theorem isBuilder_below {T e : TypeId} {B b : Nat} {bs : List Value} {w w' : World} (h : Lib.IsBuilder T e B b bs w) (hb : Below w.heap.size w w') : Lib.IsBuilder T e B b bs w' := h.imp (builder_below · hb) (builder_below · hb)
theorem strCells_txt (l : List UInt8) : Lib.strCells (txt l) = Lib.byteCells l := by
  simp [Lib.strCells, Lib.byteCells, txt]
theorem u8_one (c : Int) : ∀ u ∈ (#[Value.int .u8 c] : Array Value).toList, u.oneCell' = true := by
  intro u hu
  simp at hu
  subst hu
  rfl
set_option maxHeartbeats 1000000 in
theorem writeByte_any (B b : Nat) (bs : List Value) (c : Int) (w : World) (h : Lib.IsBuilder 261 5 B b bs w) (hlen : bs.length + 1 ≤ 140737488355328) (hBw : B ≤ w.heap.size) :
    Calls Tryz.prog 182 #[.pointer (some ⟨b, 0, none⟩), .int .u8 c] w fun e w' => e = .returned .nilIface ∧ (Lib.BuilderAt 261 5 B b (.pointer (some ⟨b, 0, none⟩)) (bs ++ [.int .u8 c]) w' ∧ Below B w w') := by
  have hinfo := info_parts Tryz.Builder_Extra_169.infoByte
  obtain ⟨i0, hi, hz0, hz1, hz2⟩ := hinfo
  have HI := Lib.hid (And.intro (show Tryz.prog.info? 5 = some i0 from hi) (And.intro hz0 (And.intro hz1 hz2)))
  clear hi hz0 hz1 hz2
  go_enter Tryz.func182, Tryz.ntmps182
  have HH := Lib.hid h
  clear h
  go_wp2_with (first
    | (refine (copyCheck_any B b bs _ HH.out).mono ?_
       rintro e w1 ⟨rfl, ⟨hB, v, hbk, hown, hne⟩, hb1⟩
       have c0 : w1.cell? ⟨b, 0, none⟩ = some (.pointer (some ⟨b, 0, none⟩)) := by rw [Lib.cell_of_heap hbk]; rfl
       have c1 : w1.cell? ⟨b, 1, none⟩ = some v := by rw [Lib.cell_of_heap hbk]; rfl
       have HL := Lib.hid (show bs.length + 1 ≤ maxLen ∧ (bs.length + 1) * 1 ≤ 140737488355328 ∧ B ≤ w1.heap.size from ⟨by unfold maxLen; omega, by omega, by have := hb1.size; omega⟩)
       have HOWN := Lib.hid hown
       have HQ := Lib.hid (And.intro hB (And.intro hbk (And.intro hown (And.intro hne hb1))))
       clear hB hbk hown hne hb1)
    | (((with_reducible refine Any.wpl_push ?_ ?_ ?_ Tryz.underlying259 HI.out.1 HI.out.2.1 HI.out.2.2.1 HI.out.2.2.2 ?_ (by decide) ?_ ((u8_one c)) (HOWN.out) HL.out.1 HL.out.2.1 HL.out.2.2 ?_); rfl; rfl; rfl; rfl; rfl; intro v2 w2 hown2 hgrow2 hwho2)
       obtain ⟨hB, hbk, hown, hne, hb1⟩ := HQ.out
       have hlt := lt_blk hbk
       have hb2 : w2.heap[b]? = some (.cells #[.pointer (some ⟨b, 0, none⟩), v] 261 (0, 0)) := by
         rw [hgrow2.block b hlt (fun e => hne e.symm)]
         exact hbk
       have d0 : w2.cell? ⟨b, 0, none⟩ = some (.pointer (some ⟨b, 0, none⟩)) := by rw [Lib.cell_of_heap hb2]; rfl
       have d1 : w2.cell? ⟨b, 1, none⟩ = some v := by rw [Lib.cell_of_heap hb2]; rfl
       have f1 : w2.frozen? ⟨b, 1, none⟩ = false := Lib.frozen_of_heap hb2 1
       obtain ⟨ao, n', cap, rfl⟩ : ∃ ao n' cap, v2 = .slice ao n' cap := by
         rcases hown2.2 with ⟨hv, _⟩ | ⟨g, cap, cur, hv, _⟩
         · exact ⟨_, _, _, hv⟩
         · exact ⟨_, _, _, hv⟩
       have HO := Lib.hid (And.intro hown2 (And.intro hgrow2 hb2))
       clear hB hbk hown hne hb1 hown2 hgrow2 hwho2 hb2)
    | fail)
  go_ret
  obtain ⟨hB, hbk, hown, hne, hb1⟩ := HQ.out
  obtain ⟨hown', hgrow, hb2⟩ := HO.out
  refine ⟨rfl, ?_, ?_⟩
  · exact Lib.BuilderAt.put (T := 261) (e := 5) hB hb2 (bs' := bs ++ [.int .u8 c]) (by simpa using hown') (by decide)
  · exact (hb1.grown hgrow (by have := hb1.size; omega) (fun k hk => (hown.lt k hk).1)).setCell (p := ⟨b, 1, none⟩) hB _
theorem size_any (k : Int) (w : World) : Calls Tryz.prog 183 #[.int .i64 k] w (Ret w (.string (txt (sizeT k)))) := by
  have hv : sizeT k = if k = 0 then [115, 109, 97, 108, 108] else if k = 1 then [108, 97, 114, 103, 101] else [111, 116, 104, 101, 114] := rfl
  by_cases h0 : k = 0
  · subst h0
    go_enter Tryz.func183, Tryz.ntmps183
    go_wp2
    go_ret
    exact ⟨rfl, Below.refl _ _⟩
  · rw [if_neg h0] at hv
    have t0 : (k == 0) = false := by simp [h0]
    by_cases h1 : k = 1
    · subst h1
      go_enter Tryz.func183, Tryz.ntmps183
      go_wp2
      go_ret
      exact ⟨rfl, Below.refl _ _⟩
    · rw [if_neg h1] at hv
      have t1 : (k == 1) = false := by simp [h1]
      have HV := Lib.hid hv
      clear h0 h1 hv
      go_enter Tryz.func183, Tryz.ntmps183
      go_wp2
      go_ret
      exact ⟨by rw [HV.out]; rfl, Below.refl _ _⟩
end Go.Proofs.YtbigoifpfkdkjaaGreatDoor.Sc
namespace Go.Proofs.YtbigoifpfkdkjaaGreatDoor.Sc
open Go Go.RowKit Go.ChangeShapes Go.WideShapes Go.ChangeAt Go.Shelf
set_option maxRecDepth 100000
/-- Rows of lots stay. -/
def LotsStay (w w' : World) : Prop := ∀ (k : Nat) (cs : Array Value) (T : TypeId), T ≠ 261 → T ≠ 5 → w.heap[k]? = some (Obj.cells cs T (0, 0)) → w'.heap[k]? = some (Obj.cells cs T (0, 0))
theorem LotsStay.trans {a b c : World} (h : LotsStay a b) (k : LotsStay b c) : LotsStay a c := fun i cs T h1 h2 hi => k i cs T h1 h2 (h i cs T h1 h2 hi)
theorem LotsStay.below {a b : World} (h : Below a.heap.size a b) : LotsStay a b := fun _ _ _ _ _ hi => blk h (lt_blk hi) hi
theorem LotsStay.set {w : World} {b o : Nat} {u : Value} {cs : Array Value} {fr : Nat × Nat} (h : w.heap[b]? = some (.cells cs 261 fr)) : LotsStay w (w.setCell ⟨b, o, none⟩ u) := fun i ds T h1 _ hi => by
  rw [Below.heap_setCell w _ _ i (fun e => ?_)]
  · exact hi
  · have e : i = b := e
    subst e
    rw [h] at hi
    simp only [Option.some.injEq, Obj.cells.injEq] at hi
    exact absurd hi.2.1.symm h1
theorem LotsStay.grown {w w' : World} {B n : Nat} {v : Value} {xs : List Value} (h : w.ownsRow B 5 1 v n xs) (hg : w.grownBy w' v.ownBlock) : LotsStay w w' := fun i ds T _ h2 hi => by
  refine (hg.block i (lt_blk hi) fun e => ?_).trans hi
  obtain ⟨c, hc⟩ := own_blkT h e.symm
  rw [hc] at hi
  simp only [Option.some.injEq, Obj.cells.injEq] at hi
  exact absurd hi.2.1.symm h2
theorem copyCheckL (B b : Nat) (bs : List Value) (w : World) (h : Lib.IsBuilder 261 5 B b bs w) :
    Calls Tryz.prog 205 #[.pointer (some ⟨b, 0, none⟩)] w fun e w' => e = .returned (.tuple #[]) ∧ (Lib.BuilderAt 261 5 B b (.pointer (some ⟨b, 0, none⟩)) bs w' ∧ Below B w w') ∧ LotsStay w w' := by
  rcases h with h | h
  · refine (copyCheck_fresh b w h.cell0 h.shape h.frozen0).mono ?_
    rintro e w' ⟨rfl, rfl⟩
    obtain ⟨-, v, h2, -⟩ := id h
    exact ⟨rfl, ⟨h.used _, (Below.refl B w).setCell (p := ⟨b, 0, none⟩) h.1 _⟩, LotsStay.set h2⟩
  · refine (copyCheck_used b w h.cell0).mono ?_
    rintro e w' ⟨rfl, rfl⟩
    exact ⟨rfl, ⟨h, Below.refl _ _⟩, fun _ _ _ _ _ h => h⟩
def WrP (B b : Nat) (bs : List Value) (w w' : World) : Prop := Lib.BuilderAt 261 5 B b (.pointer (some ⟨b, 0, none⟩)) bs w' ∧ Below B w w' ∧ LotsStay w w'
set_option maxHeartbeats 1000000 in
theorem writeStringL (B b : Nat) (bs : List Value) (s : ByteArray) (w : World) (h : Lib.IsBuilder 261 5 B b bs w) (hlen : bs.length + s.size ≤ 140737488355328) (hBw : B ≤ w.heap.size) :
    Calls Tryz.prog 181 #[.pointer (some ⟨b, 0, none⟩), .string s] w fun e w' => e = .returned (.tuple #[.int .i64 s.size, .nilIface]) ∧ WrP B b (bs ++ Lib.strCells s) w w' := by
  obtain ⟨i0, hi, hz0, hz1, hz2⟩ := info_parts Tryz.Builder_Extra_169.infoByte
  go_enter Tryz.func181, Tryz.ntmps181
  have HH := Lib.hid h
  clear h
  go_wp2_with (first
    | (refine (copyCheckL B b bs _ HH.out).mono ?_
       rintro e w1 ⟨rfl, ⟨⟨hB, v, hbk, hown, hne⟩, hb1⟩, hls⟩
       have c0 : w1.cell? ⟨b, 0, none⟩ = some (.pointer (some ⟨b, 0, none⟩)) := by rw [Lib.cell_of_heap hbk]; rfl
       have c1 : w1.cell? ⟨b, 1, none⟩ = some v := by rw [Lib.cell_of_heap hbk]; rfl
       have HQ := Lib.hid (And.intro hB (And.intro hbk (And.intro hown (And.intro hne hb1))))
       have HLS := Lib.hid hls
       clear hB hbk hown hne hb1 hls)
    | (refine Lib.wpList_append_own_string _ rfl _ _ 259 9 rfl B 5 i0 Tryz.underlying259 Tryz.underlying9 hi hz0 hz1 hz2 _ _ _ rfl HQ.out.2.2.1 s rfl (by unfold maxLen; omega) (by omega) (by have := HQ.out.2.2.2.2.size; omega) ?_
       intro v' w2 hown' hgrow _
       obtain ⟨hB, hbk, hown, hne, hb1⟩ := HQ.out
       have hlt := lt_blk hbk
       have hb2 : w2.heap[b]? = some (.cells #[.pointer (some ⟨b, 0, none⟩), v] 261 (0, 0)) := by
         rw [hgrow.block b hlt (fun e => hne e.symm)]
         exact hbk
       have d0 : w2.cell? ⟨b, 0, none⟩ = some (.pointer (some ⟨b, 0, none⟩)) := by rw [Lib.cell_of_heap hb2]; rfl
       have d1 : w2.cell? ⟨b, 1, none⟩ = some v := by rw [Lib.cell_of_heap hb2]; rfl
       have f1 : w2.frozen? ⟨b, 1, none⟩ = false := Lib.frozen_of_heap hb2 1
       obtain ⟨ao, n', cap, rfl⟩ : ∃ ao n' cap, v' = .slice ao n' cap := by
         rcases hown'.2 with ⟨hv, _⟩ | ⟨g, cap, cur, hv, _⟩
         · exact ⟨_, _, _, hv⟩
         · exact ⟨_, _, _, hv⟩
       have HO := Lib.hid (And.intro hown' (And.intro hgrow hb2))
       clear hB hbk hown hne hb1 hown' hgrow hb2)
    | fail)
  go_ret2
  obtain ⟨hB, hbk, hown, hne, hb1⟩ := HQ.out
  obtain ⟨hown', hgrow, hb2⟩ := HO.out
  refine ⟨rfl, ?_, ?_, ?_⟩
  · exact Lib.BuilderAt.put (T := 261) (e := 5) hB hb2 (bs' := bs ++ Lib.strCells s) (by simpa [Lib.strCells_length] using hown') (by decide)
  · exact (hb1.grown hgrow (by have := hb1.size; omega) (fun k hk => (hown.lt k hk).1)).setCell (p := ⟨b, 1, none⟩) hB _
  · exact (HLS.out.trans (LotsStay.grown hown hgrow)).trans (LotsStay.set hb2)
set_option maxHeartbeats 1000000 in
theorem writeByteL (B b : Nat) (bs : List Value) (c : Int) (w : World) (h : Lib.IsBuilder 261 5 B b bs w) (hlen : bs.length + 1 ≤ 140737488355328) (hBw : B ≤ w.heap.size) :
    Calls Tryz.prog 182 #[.pointer (some ⟨b, 0, none⟩), .int .u8 c] w fun e w' => e = .returned .nilIface ∧ WrP B b (bs ++ [.int .u8 c]) w w' := by
  have hinfo := info_parts Tryz.Builder_Extra_169.infoByte
  obtain ⟨i0, hi, hz0, hz1, hz2⟩ := hinfo
  have HI := Lib.hid (And.intro (show Tryz.prog.info? 5 = some i0 from hi) (And.intro hz0 (And.intro hz1 hz2)))
  clear hi hz0 hz1 hz2
  go_enter Tryz.func182, Tryz.ntmps182
  have HH := Lib.hid h
  clear h
  go_wp2_with (first
    | (refine (copyCheckL B b bs _ HH.out).mono ?_
       rintro e w1 ⟨rfl, ⟨⟨hB, v, hbk, hown, hne⟩, hb1⟩, hls⟩
       have c0 : w1.cell? ⟨b, 0, none⟩ = some (.pointer (some ⟨b, 0, none⟩)) := by rw [Lib.cell_of_heap hbk]; rfl
       have c1 : w1.cell? ⟨b, 1, none⟩ = some v := by rw [Lib.cell_of_heap hbk]; rfl
       have HL := Lib.hid (show bs.length + 1 ≤ maxLen ∧ (bs.length + 1) * 1 ≤ 140737488355328 ∧ B ≤ w1.heap.size from ⟨by unfold maxLen; omega, by omega, by have := hb1.size; omega⟩)
       have HOWN := Lib.hid hown
       have HQ := Lib.hid (And.intro hB (And.intro hbk (And.intro hown (And.intro hne hb1))))
       have HLS := Lib.hid hls
       clear hB hbk hown hne hb1 hls)
    | (((with_reducible refine Any.wpl_push ?_ ?_ ?_ Tryz.underlying259 HI.out.1 HI.out.2.1 HI.out.2.2.1 HI.out.2.2.2 ?_ (by decide) ?_ ((u8_one c)) (HOWN.out) HL.out.1 HL.out.2.1 HL.out.2.2 ?_); rfl; rfl; rfl; rfl; rfl; intro v2 w2 hown2 hgrow2 hwho2)
       obtain ⟨hB, hbk, hown, hne, hb1⟩ := HQ.out
       have hlt := lt_blk hbk
       have hb2 : w2.heap[b]? = some (.cells #[.pointer (some ⟨b, 0, none⟩), v] 261 (0, 0)) := by
         rw [hgrow2.block b hlt (fun e => hne e.symm)]
         exact hbk
       have d0 : w2.cell? ⟨b, 0, none⟩ = some (.pointer (some ⟨b, 0, none⟩)) := by rw [Lib.cell_of_heap hb2]; rfl
       have d1 : w2.cell? ⟨b, 1, none⟩ = some v := by rw [Lib.cell_of_heap hb2]; rfl
       have f1 : w2.frozen? ⟨b, 1, none⟩ = false := Lib.frozen_of_heap hb2 1
       obtain ⟨ao, n', cap, rfl⟩ : ∃ ao n' cap, v2 = .slice ao n' cap := by
         rcases hown2.2 with ⟨hv, _⟩ | ⟨g, cap, cur, hv, _⟩
         · exact ⟨_, _, _, hv⟩
         · exact ⟨_, _, _, hv⟩
       have HO := Lib.hid (And.intro hown2 (And.intro hgrow2 hb2))
       clear hB hbk hown hne hb1 hown2 hgrow2 hwho2 hb2)
    | fail)
  go_ret
  obtain ⟨hB, hbk, hown, hne, hb1⟩ := HQ.out
  obtain ⟨hown', hgrow, hb2⟩ := HO.out
  refine ⟨rfl, ?_, ?_, ?_⟩
  · exact Lib.BuilderAt.put (T := 261) (e := 5) hB hb2 (bs' := bs ++ [.int .u8 c]) (by simpa using hown') (by decide)
  · exact (hb1.grown hgrow (by have := hb1.size; omega) (fun k hk => (hown.lt k hk).1)).setCell (p := ⟨b, 1, none⟩) hB _
  · exact (HLS.out.trans (LotsStay.grown hown hgrow)).trans (LotsStay.set hb2)
theorem lots_stay {w w' : World} {B n : Nat} {v : Value} {xs : List Value} (h : w.ownsRow B 107 2 v n xs) (hl : LotsStay w w') : w'.ownsRow B 107 2 v n xs := by
  refine Any.ownsRow_same h fun k hk => ?_
  obtain ⟨c, hc⟩ := own_blkT h hk
  exact (hl k c _ (by decide) (by decide) hc).trans hc.symm
theorem cell_txt (xn : ByteArray) (c : Int) : ⟨#[32]⟩ ++ xn ++ ⟨#[58]⟩ ++ txt (Lib.itoa c) = txt (lotT ⟨xn, c⟩) := by
  conv => lhs; rw [← txt_bt xn]
  rw [show (⟨#[32]⟩ : ByteArray) = txt [32] from rfl, show (⟨#[58]⟩ : ByteArray) = txt [58] from rfl, txt_append, txt_append, txt_append, lotT]
  simp
set_option maxHeartbeats 4000000 in
/-- The lots of a box, written. -/
theorem tell_any (B b : Nat) (T : List UInt8) (l : List Lt) (v : Value) (w : World) (h : Lib.IsBuilder 261 5 B b (Lib.byteCells T) w) (hs : ∀ W, Below B w W → LotsStay w W → Sl W 2 v (l.map Lt.row)) (hl : l.length ≤ 300) (hsh : ∀ x ∈ l, x.short) (hT : T.length ≤ 1000000) (ht : ∀ W, Below B w W → TabW W) (hB : B ≤ w.heap.size) :
    Calls Tryz.prog 180 #[v, .pointer (some ⟨b, 0, none⟩)] w fun e w' => e = .returned (.tuple #[]) ∧ WrP B b (Lib.byteCells (T ++ lotsT l)) w w' := by
  obtain ⟨a, c, rfl⟩ : ∃ a c, v = .slice a l.length c := by simpa using (hs w (Below.refl _ _) (fun _ _ _ _ _ h => h)).shape
  have HS := Lib.hid hs
  have HSH := Lib.hid hsh
  have HTB := Lib.hid ht
  have HB0 := Lib.hid hB
  have HT0 := Lib.hid hT
  have HL := Lib.hid hl
  have HBD := Lib.hid h
  have hll : l.length ≤ 9223372036854775807 := by omega
  clear h hs hl hsh hT ht hB
  go_enter Tryz.func180, Tryz.ntmps180
  go_wp2_with fail
  go_loopw [4, 7] (fun _ i wr => ∃ k : Nat, k ≤ l.length ∧ i = .int .i64 k ∧ Lib.IsBuilder 261 5 B b (Lib.byteCells (T ++ lotsB (l.take k))) wr ∧ Below B w wr ∧ LotsStay w wr) (fun _ i _ => l.length - (intOf i).toNat)
  case atStart => exact ⟨0, Nat.zero_le _, rfl, by simpa [lotsB] using HBD.out, Below.refl _ _, fun _ _ _ _ _ h => h⟩
  case round =>
    obtain ⟨k, hk, rfl, hbd, hbel, hst⟩ := hrel
    have HBK := Lib.hid hbd
    have HBEL := Lib.hid hbel
    have HST := Lib.hid hst
    have hTl := lotsB_len (l.take k) (fun x hx => HSH.out x (List.mem_of_mem_take hx))
    have hTs : (Lib.byteCells (T ++ lotsB (l.take k))).length ≤ 1030000 := by
      have := HT0.out
      have := HL.out
      rw [List.length_take] at hTl
      simp only [Lib.byteCells, List.length_map, List.length_append]
      omega
    have HTS := Lib.hid hTs
    by_cases hlt : k < l.length
    rotate_left
    · have HWB := Lib.hid (writeByteL B b _ 10 wr hbd (by omega) (Nat.le_trans HB0.out hbel.size))
      have HE : Hid (Lib.byteCells (T ++ lotsB (l.take k)) ++ [.int .u8 10] = Lib.byteCells (T ++ lotsT l)) := Lib.hid (by rw [List.take_of_length_le (by omega)]; simp [Lib.byteCells, lotsT])
      clear hbd hbel hst hTl hTs
      go_wp2_with (first
        | ((with_reducible refine HWB.out.mono ?_); rintro e w3 ⟨rfl, hq⟩; have HQ := Lib.hid hq; clear hq)
        | fail)
      go_end0
      obtain ⟨h1, h2, h3⟩ := HQ.out
      rw [HE.out] at h1
      exact ⟨rfl, h1, HBEL.out.trans h2, HST.out.trans h3⟩
    obtain ⟨bb, off, rfl, -, -, -⟩ := (HS.out wr hbel hst).at (i := k) (by simpa using hlt)
    obtain ⟨b1, o1, he, -, -, hc⟩ := (HS.out wr hbel hst).at (i := k) (by simpa using hlt)
    simp only [Option.some.injEq, Addr.mk.injEq, and_true] at he
    obtain ⟨rfl, rfl⟩ := he
    have d0 : wr.cell? ⟨bb, off + k * 2, none⟩ = some (.string l[k].good) := hc k l[k].row (by simp [hlt]) 0 _ rfl
    have d1 : wr.cell? ⟨bb, off + k * 2 + 1, none⟩ = some (.int .i64 l[k].cnt) := hc k l[k].row (by simp [hlt]) 1 _ rfl
    have hx := HSH.out l[k] (List.getElem_mem hlt)
    have hsn := lotsB_snoc hlt
    have tk : ((k : Nat) : Int) < (l.length : Int) := by omega
    generalize l[k] = x at *
    obtain ⟨xn, xc⟩ := x
    simp only at d0 d1 hx
    obtain ⟨w5, hw5⟩ : ∃ w5, w5 = wr.alloc (.cells #[.string xn, .int .i64 xc] 107) := ⟨_, rfl⟩
    obtain ⟨b4, hb4⟩ : ∃ b, b = wr.heap.size := ⟨_, rfl⟩
    have HX4 : Hid (w5.heap[b4]? = some (.cells #[.string xn, .int .i64 xc] 107 (0, 0))) := Lib.hid (by rw [hw5, hb4]; exact heap_alloc_new wr _)
    have h5 : Below wr.heap.size wr w5 := by rw [hw5]; exact one_below wr _
    have hBw : B ≤ wr.heap.size := Nat.le_trans HB0.out hbel.size
    have HB5 : Hid (Below B w w5 ∧ LotsStay w w5 ∧ B ≤ w5.heap.size) := Lib.hid ⟨hbel.trans (h5.mono hBw), hst.trans (LotsStay.below h5), Nat.le_trans hBw h5.size⟩
    have hbd5 : Lib.IsBuilder 261 5 B b (Lib.byteCells (T ++ lotsB (l.take k))) w5 := isBuilder_below hbd h5
    have HIT := Lib.hid (fun W (hW : Below w5.heap.size w5 W) => itoa_any xc hx.lo hx.hi W (HTB.out W (HB5.out.1.trans (hW.mono HB5.out.2.2))))
    have HSZ : Hid (xn.size ≤ 60 ∧ (txt (Lib.itoa xc)).size ≤ 21) := Lib.hid ⟨hx.name, by rw [txt_size]; exact itoa_len20 hx.lo hx.hi⟩
    have hltx := lotT_len hx
    have HWS : Hid (∀ W, Below w5.heap.size w5 W → Calls Tryz.prog 181 #[.pointer (some ⟨b, 0, none⟩), .string (⟨#[32]⟩ ++ xn ++ ⟨#[58]⟩ ++ txt (Lib.itoa xc))] W fun e w' => e = .returned (.tuple #[.int .i64 (⟨#[32]⟩ ++ xn ++ ⟨#[58]⟩ ++ txt (Lib.itoa xc) : ByteArray).size, .nilIface]) ∧ (Lib.IsBuilder 261 5 B b (Lib.byteCells (T ++ lotsB (l.take (k + 1)))) w' ∧ Below B w w' ∧ LotsStay w w')) := Lib.hid (fun W hW => by
      refine (writeStringL B b _ _ W (isBuilder_below hbd5 hW) ?_ (Nat.le_trans HB5.out.2.2 hW.size)).mono fun e w' hq => ⟨hq.1, ?_⟩
      · rw [cell_txt, txt_size]
        have := HTS.out
        omega
      · obtain ⟨q1, q2, q3⟩ := hq.2
        refine ⟨.inr ?_, (HB5.out.1.trans (hW.mono HB5.out.2.2)).trans q2, (HB5.out.2.1.trans (LotsStay.below hW)).trans q3⟩
        rw [cell_txt, strCells_txt, ← byteCells_append, List.append_assoc, ← hsn] at q1
        exact q1)
    clear hbd hbel hst hTl hTs hc hx hsn h5 hBw hbd5 hltx
    go_wp2_with fail
    rw [← hw5, ← hb4]
    clear hw5 hb4 d0 d1
    refine Any.region_litL (fun
      | 0 => Any.val (.pointer (some ⟨b4, 0, none⟩))
      | 1 => Any.val (.string xn)
      | 2 => Any.val (.string (⟨#[32]⟩ ++ xn))
      | 3 => Any.val (.string (⟨#[32]⟩ ++ xn ++ ⟨#[58]⟩))
      | 4 => Any.val (.pointer (some ⟨b4, 1, none⟩))
      | 5 => Any.val (.int .i64 xc)
      | 6 => Any.val (.string (txt (Lib.itoa xc)))
      | 7 => Any.val (.string (⟨#[32]⟩ ++ xn ++ ⟨#[58]⟩ ++ txt (Lib.itoa xc)))
      | _ => Any.idle) 8 _ (by kernel_rfl) rfl rfl rfl (by kernel_rfl) (by kernel_rfl) (by kernel_rfl) ?_ ?_ ?_
    · intro i _
      match i with
      | 0 => exact Any.lasts_val _
      | 1 => exact Any.lasts_val _
      | 2 => exact Any.lasts_val _
      | 3 => exact Any.lasts_val _
      | 4 => exact Any.lasts_val _
      | 5 => exact Any.lasts_val _
      | 6 => exact Any.lasts_val _
      | 7 => exact Any.lasts_val _
      | n + 8 => exact Any.lasts_idle
    · simp only [List.take_succ_cons, List.take_zero]
      refine ⟨?_, ?_, ?_, ?_, ?_, ?_, ?_, ?_, trivial⟩
      · refine Any.owes_plain rfl fun ρ wo hs' hb hc' => ?_
        have h4 : ρ (.tmp 4) = .pointer (some ⟨b4, 0, none⟩) := hs'.old' 4 (by kernel_rfl)
        go_simp
        exact Any.post_val hb rfl rfl
      · refine Any.owes_plain rfl fun ρ wo hs' hb hc' => ?_
        have h11 : ρ (.tmp 11) = .pointer (some ⟨b4, 0, none⟩) := hs'.new' 11 0 (by kernel_rfl)
        have c0 : wo.cell? ⟨b4, 0, none⟩ = some (.string xn) := cell_blk (blk (below_undrew hb) (lt_blk HX4.out) HX4.out) 0
        go_simp
        exact Any.post_val hb rfl rfl
      · refine Any.owes_plain rfl fun ρ wo hs' hb hc' => ?_
        have h12 : ρ (.tmp 12) = .string xn := hs'.new' 12 1 (by kernel_rfl)
        exact Any.ok_add_str (hc' _) (h12) (by have := HSZ.out; have e1 : (⟨#[32]⟩ : ByteArray).size = 1 := rfl; have e2 : (⟨#[58]⟩ : ByteArray).size = 1 := rfl; (try simp only [ByteArray.size_append]); omega) (Any.post_val hb rfl rfl)
      · refine Any.owes_plain rfl fun ρ wo hs' hb hc' => ?_
        have h13 : ρ (.tmp 13) = .string (⟨#[32]⟩ ++ xn) := hs'.new' 13 2 (by kernel_rfl)
        exact Any.ok_add_str (h13) (hc' _) (by have := HSZ.out; have e1 : (⟨#[32]⟩ : ByteArray).size = 1 := rfl; have e2 : (⟨#[58]⟩ : ByteArray).size = 1 := rfl; (try simp only [ByteArray.size_append]); omega) (Any.post_val hb rfl rfl)
      · refine Any.owes_plain rfl fun ρ wo hs' hb hc' => ?_
        have h4 : ρ (.tmp 4) = .pointer (some ⟨b4, 0, none⟩) := hs'.old' 4 (by kernel_rfl)
        go_simp
        exact Any.post_val hb rfl rfl
      · refine Any.owes_plain rfl fun ρ wo hs' hb hc' => ?_
        have h15 : ρ (.tmp 15) = .pointer (some ⟨b4, 1, none⟩) := hs'.new' 15 4 (by kernel_rfl)
        have c0 : wo.cell? ⟨b4, 1, none⟩ = some (.int .i64 xc) := cell_blk (blk (below_undrew hb) (lt_blk HX4.out) HX4.out) 1
        go_simp
        exact Any.post_val hb rfl rfl
      · refine Any.owes_plain rfl fun ρ wo hs' hb hc' => ?_
        have h16 : ρ (.tmp 16) = .int .i64 xc := hs'.new' 16 5 (by kernel_rfl)
        have hf := hs'.func 122
        go_simp
        exact (HIT.out wo (below_undrew hb)).mono fun e w' ⟨he, hb'⟩ => ⟨_, he, Any.post_vals hb rfl rfl hb'⟩
      · refine Any.owes_plain rfl fun ρ wo hs' hb hc' => ?_
        have h14 : ρ (.tmp 14) = .string (⟨#[32]⟩ ++ xn ++ ⟨#[58]⟩) := hs'.new' 14 3 (by kernel_rfl)
        have h17 : ρ (.tmp 17) = .string (txt (Lib.itoa xc)) := hs'.new' 17 6 (by kernel_rfl)
        exact Any.ok_add_str (h14) (h17) (by have := HSZ.out; have e1 : (⟨#[32]⟩ : ByteArray).size = 1 := rfl; have e2 : (⟨#[58]⟩ : ByteArray).size = 1 := rfl; (try simp only [ByteArray.size_append]); omega) (Any.post_val hb rfl rfl)
    intro vals w6 hb hk
    have h7 : vals 7 = .string (⟨#[32]⟩ ++ xn ++ ⟨#[58]⟩ ++ txt (Lib.itoa xc)) := hk 7 (by kernel_rfl)
    have HB6 := Lib.hid hb
    clear hk hb
    simp only [List.take_succ_cons, List.take_zero, Any.putAll]
    go_frame
    simp only [Nat.zero_add, Nat.reduceAdd]
    rw [h7]
    clear h7
    go_simp
    refine (HWS.out w6 HB6.out).mono ?_
    rintro e w7 ⟨rfl, hq⟩
    have HQ7 := Lib.hid hq
    clear hq
    refine ⟨_, rfl, ?_⟩
    go_wp2_with fail
    go_roundw
    case rel =>
      obtain ⟨h1, h2, h3⟩ := HQ7.out
      exact ⟨k + 1, by omega, by go_num, h1, h2, h3⟩
    case measure => (simp [intOf]) <;> omega
end Go.Proofs.YtbigoifpfkdkjaaGreatDoor.Sc
