/- What is done to a bill: lost, replaced. slices.Clone of texts and of endorsements. A credit's cells, and the contracts of package allow's functions of numbers. The contract of allow.Most. -/
import Derived.Test.YtbigoifpfkdkjaaGreatDoorTe09
import Derived.Test.YtbigoifpfkdkjaaGreatDoorTe03
import Derived.Test.YtbigoifpfkdkjaaGreatDoorTe01
namespace Go.Proofs.YtbigoifpfkdkjaaGreatDoor.Sc
open Go Go.RowKit Go.ChangeShapes Go.WideShapes Go.ChangeAt
set_option maxRecDepth 100000

/-- The register with its one bill; its chains lie in rows of their own. -/
structure Reg (B : Nat) (w : World) (br bm be : Nat) (E : En) (vb vp v0 v1 v2 : Value) (m : ByteArray) : Prop where
  rg : RgAt w br bm be
  box : w.heap[be]? = some (.cells (E.cells vb vp v0 v1 v2) 152 (0, 0))
  r0 : w.ownsRow B 75 4 v0 E.o0.ch.length (edCells E.o0.ch)
  r1 : w.ownsRow B 75 4 v1 E.o1.ch.length (edCells E.o1.ch)
  r2 : w.ownsRow B 75 4 v2 E.o2.ch.length (edCells E.o2.ch)
  a01 : ∀ b, v0.ownBlock = some b → v1.ownBlock ≠ some b
  a02 : ∀ b, v0.ownBlock = some b → v2.ownBlock ≠ some b
  a12 : ∀ b, v1.ownBlock = some b → v2.ownBlock ≠ some b
  bx : w.ownsRow B 9 1 vb 1 [.string m]
theorem Reg.en {B : Nat} {w : World} {br bm be : Nat} {E : En} {vb vp v0 v1 v2 : Value} {m : ByteArray} (h : Reg B w br bm be E vb vp v0 v1 v2 m) : EnAt w be E vb vp v0 v1 v2 := ⟨h.box, own_eds h.r0 rfl, own_eds h.r1 rfl, own_eds h.r2 rfl⟩
theorem Reg.below {B : Nat} {w w' : World} {br bm be : Nat} {E : En} {vb vp v0 v1 v2 : Value} {m : ByteArray} (h : Reg B w br bm be E vb vp v0 v1 v2 m) (hb : Below w.heap.size w w') : Reg B w' br bm be E vb vp v0 v1 v2 m :=
  ⟨h.rg.below hb, blk hb (lt_blk h.box) h.box, ownsRow_below h.r0 hb, ownsRow_below h.r1 hb, ownsRow_below h.r2 hb, h.a01, h.a02, h.a12, ownsRow_below h.bx hb⟩
/-- A state that is set. -/
def En.setSt (E : En) (k : Nat) (s : Int) : En := if k = 0 then { E with o0 := { E.o0 with st := s } } else if k = 1 then { E with o1 := { E.o1 with st := s } } else { E with o2 := { E.o2 with st := s } }
theorem og_set (E : En) (k : Nat) (s : Int) (j : Nat) : ((E.setSt k s).og j).ch = (E.og j).ch ∧ ((E.setSt k s).og j).hd = (E.og j).hd := by
  unfold En.setSt En.og
  repeat' split
  all_goals exact ⟨rfl, rfl⟩
theorem Reg.setCell {B : Nat} {w : World} {br bm be : Nat} {E E' : En} {vb vp v0 v1 v2 : Value} {m : ByteArray} {o : Nat} {u : Value} (h : Reg B w br bm be E vb vp v0 v1 v2 m) (hc : (E.cells vb vp v0 v1 v2).setIfInBounds o u = E'.cells vb vp v0 v1 v2) (h0 : E'.o0.ch = E.o0.ch) (h1 : E'.o1.ch = E.o1.ch) (h2 : E'.o2.ch = E.o2.ch) (hbr : br ≠ be) (hbm : bm ≠ be) :
    Reg B (w.setCell ⟨be, o, none⟩ u) br bm be E' vb vp v0 v1 v2 m := by
  have hs : ∀ j, j ≠ be → (w.setCell ⟨be, o, none⟩ u).heap[j]? = w.heap[j]? := fun j hj => Below.heap_setCell w _ _ j (fun e => hj e)
  have hrow : ∀ {e : TypeId} {sz : Nat} {v : Value} {n : Nat} {xs : List Value}, e ≠ 152 → w.ownsRow B e sz v n xs → (w.setCell ⟨be, o, none⟩ u).ownsRow B e sz v n xs := fun hne hr => Any.ownsRow_same hr fun b hb => hs b fun e => by
    subst e
    rcases hr.2 with ⟨h1, _⟩ | ⟨g, cap, cur, h1, _, hh, _⟩
    · rw [h1] at hb; cases hb
    · rw [h1] at hb
      obtain rfl : g = b := Option.some.inj hb
      rw [h.box] at hh
      simp only [Option.some.injEq, Obj.cells.injEq] at hh
      exact absurd hh.2.1.symm hne
  refine ⟨⟨(hs br hbr).trans h.rg.rb, h.rg.mp.same (hs bm hbm)⟩, ?_, by rw [h0]; exact hrow (by decide) h.r0, by rw [h1]; exact hrow (by decide) h.r1, by rw [h2]; exact hrow (by decide) h.r2, h.a01, h.a02, h.a12, hrow (by decide) h.bx⟩
  rw [← hc]
  simp [World.setCell, Array.getElem?_modify, h.box]
theorem grown_setC (w : World) (b o : Nat) (u : Value) : w.grownBy (w.setCell ⟨b, o, none⟩ u) (some b) :=
  ⟨rfl, rfl, rfl, by simp [World.setCell], fun k _ hne => Below.heap_setCell w _ _ k (fun e => hne (by rw [e]))⟩
set_option maxHeartbeats 4000000 in
theorem lose_any (k : Int) (kn : Nat) (hk : (k = 0 ∧ kn = 0) ∨ (k = 1 ∧ kn = 1) ∨ (k = 2 ∧ kn = 2)) (by0 : ByteArray) (E : En) (B br bm be : Nat) (vb vp v0 v1 v2 : Value) (m : ByteArray) (w : World) (h : Reg B w br bm be E vb vp v0 v1 v2 m) (hbr : br ≠ be) (hbm : bm ≠ be) :
    Calls Tryz.prog 19 #[.pointer (some ⟨br, 0, none⟩), .string b1B, .int .i64 k, .string by0] w (fun e w' => ∃ c, e = .returned (.int .i64 c) ∧ Reg B w' br bm be (if askC ⟨b1B, k, 0, by0, 0, 0, false, false⟩ E = 0 then E.setSt kn 3 else E) vb vp v0 v1 v2 m ∧ Keep (fun x => x = be) w w') := by
  have HA := Lib.hid (ask_any ⟨b1B, k, 0, by0, 0, 0, false, false⟩ E br bm be vb vp v0 v1 v2 w rfl h.rg h.en)
  simp only [Ac.cells] at HA
  have HH := Lib.hid h
  have hse : ∀ W : World, Mp.look false (Mp.mget [(b1B, .pointer (some ⟨be, 0, none⟩))] b1B) (.pointer none) = .pointer (some ⟨be, 0, none⟩) := fun _ => rfl
  by_cases hc : askC ⟨b1B, k, 0, by0, 0, 0, false, false⟩ E = 0
  · rw [if_pos hc]
    rw [hc] at HA
    have HBR := Lib.hid (And.intro hbr hbm)
    clear h hc hbr hbm
    obtain ⟨rfl, rfl⟩ | ⟨rfl, rfl⟩ | ⟨rfl, rfl⟩ := hk
    all_goals
      go_enter Tryz.func19, Tryz.ntmps19
      go_wp2_with (first
        | ((with_reducible refine HA.out.mono ?_); rintro en w1 ⟨rfl, hb1⟩; have HB1 := Lib.hid hb1; have HH1 := Lib.hid (HH.out.below hb1); clear hb1; have c1 : w1.cell? ⟨br, 1, none⟩ = some (.map (some bm)) := cell_blk HH1.out.rg.rb 1; have x0 : w1.cell? ⟨be, 10, none⟩ = some (.int .i64 E.o0.st) := cell_blk HH1.out.box 10; have x1 : w1.cell? ⟨be, 13, none⟩ = some (.int .i64 E.o1.st) := cell_blk HH1.out.box 13; have x2 : w1.cell? ⟨be, 16, none⟩ = some (.int .i64 E.o2.st) := cell_blk HH1.out.box 16; have f0 := free_blk HH1.out.box 10; have f1 := free_blk HH1.out.box 13; have f2 := free_blk HH1.out.box 16)
        | ((with_reducible refine Mp.wpl_lookup (b := bm) (l := [(b1B, .pointer (some ⟨be, 0, none⟩))]) (key := b1B) ?_ ?_ ?_ Tryz.underlying133 Tryz.underlying9 (zeroEn _) HH1.out.rg.mp ?_); rfl; rfl; rfl; rw [hse w1])
        | fail)
      go_ret
      first
        | exact ⟨0, rfl, HH1.out.setCell (E' := E.setSt 0 3) rfl rfl rfl rfl HBR.out.1 HBR.out.2, (Keep.of_below HB1.out).trans (Keep.of_grown (grown_setC _ be _ _)) (fun i _ h => (Option.some.inj h).symm)⟩
        | exact ⟨0, rfl, HH1.out.setCell (E' := E.setSt 1 3) rfl rfl rfl rfl HBR.out.1 HBR.out.2, (Keep.of_below HB1.out).trans (Keep.of_grown (grown_setC _ be _ _)) (fun i _ h => (Option.some.inj h).symm)⟩
        | exact ⟨0, rfl, HH1.out.setCell (E' := E.setSt 2 3) rfl rfl rfl rfl HBR.out.1 HBR.out.2, (Keep.of_below HB1.out).trans (Keep.of_grown (grown_setC _ be _ _)) (fun i _ h => (Option.some.inj h).symm)⟩
  · rw [if_neg hc]
    have t1 : (askC ⟨b1B, k, 0, by0, 0, 0, false, false⟩ E == 0) = false := by rw [beq_eq_false_iff_ne]; exact hc
    generalize askC ⟨b1B, k, 0, by0, 0, 0, false, false⟩ E = cd at *
    clear h hc hbr hbm
    go_enter Tryz.func19, Tryz.ntmps19
    go_wp2_with (first
      | ((with_reducible refine HA.out.mono ?_); rintro en w1 ⟨rfl, hb1⟩; have HB1 := Lib.hid hb1; have HH1 := Lib.hid (HH.out.below hb1); clear hb1)
      | fail)
    go_ret
    exact ⟨cd, rfl, HH1.out, Keep.of_below HB1.out⟩
set_option maxHeartbeats 4000000 in
theorem replace_any (k : Int) (kn : Nat) (hk : (k = 0 ∧ kn = 0) ∨ (k = 1 ∧ kn = 1) ∨ (k = 2 ∧ kn = 2)) (by0 : ByteArray) (d : Int) (E : En) (B br bm be : Nat) (vb vp v0 v1 v2 : Value) (m : ByteArray) (w : World) (h : Reg B w br bm be E vb vp v0 v1 v2 m) (hbr : br ≠ be) (hbm : bm ≠ be) :
    Calls Tryz.prog 20 #[.pointer (some ⟨br, 0, none⟩), .string b1B, .int .i64 k, .string by0, .int .i64 d] w (fun e w' => ∃ c, e = .returned (.int .i64 c) ∧ Reg B w' br bm be (if askC ⟨b1B, k, 0, by0, 3, d, true, false⟩ E = 0 then E.setSt kn 0 else E) vb vp v0 v1 v2 m ∧ Keep (fun x => x = be) w w') := by
  have HA := Lib.hid (ask_any ⟨b1B, k, 0, by0, 3, d, true, false⟩ E br bm be vb vp v0 v1 v2 w rfl h.rg h.en)
  simp only [Ac.cells] at HA
  have HH := Lib.hid h
  have hse : ∀ W : World, Mp.look false (Mp.mget [(b1B, .pointer (some ⟨be, 0, none⟩))] b1B) (.pointer none) = .pointer (some ⟨be, 0, none⟩) := fun _ => rfl
  by_cases hc : askC ⟨b1B, k, 0, by0, 3, d, true, false⟩ E = 0
  · rw [if_pos hc]
    rw [hc] at HA
    have HBR := Lib.hid (And.intro hbr hbm)
    clear h hc hbr hbm
    obtain ⟨rfl, rfl⟩ | ⟨rfl, rfl⟩ | ⟨rfl, rfl⟩ := hk
    all_goals
      go_enter Tryz.func20, Tryz.ntmps20
      go_wp2_with (first
        | ((with_reducible refine HA.out.mono ?_); rintro en w1 ⟨rfl, hb1⟩; have HB1 := Lib.hid hb1; have HH1 := Lib.hid (HH.out.below hb1); clear hb1; have c1 : w1.cell? ⟨br, 1, none⟩ = some (.map (some bm)) := cell_blk HH1.out.rg.rb 1; have x0 : w1.cell? ⟨be, 10, none⟩ = some (.int .i64 E.o0.st) := cell_blk HH1.out.box 10; have x1 : w1.cell? ⟨be, 13, none⟩ = some (.int .i64 E.o1.st) := cell_blk HH1.out.box 13; have x2 : w1.cell? ⟨be, 16, none⟩ = some (.int .i64 E.o2.st) := cell_blk HH1.out.box 16; have f0 := free_blk HH1.out.box 10; have f1 := free_blk HH1.out.box 13; have f2 := free_blk HH1.out.box 16)
        | ((with_reducible refine Mp.wpl_lookup (b := bm) (l := [(b1B, .pointer (some ⟨be, 0, none⟩))]) (key := b1B) ?_ ?_ ?_ Tryz.underlying133 Tryz.underlying9 (zeroEn _) HH1.out.rg.mp ?_); rfl; rfl; rfl; rw [hse w1])
        | fail)
      go_ret
      first
        | exact ⟨0, rfl, HH1.out.setCell (E' := E.setSt 0 0) rfl rfl rfl rfl HBR.out.1 HBR.out.2, (Keep.of_below HB1.out).trans (Keep.of_grown (grown_setC _ be _ _)) (fun i _ h => (Option.some.inj h).symm)⟩
        | exact ⟨0, rfl, HH1.out.setCell (E' := E.setSt 1 0) rfl rfl rfl rfl HBR.out.1 HBR.out.2, (Keep.of_below HB1.out).trans (Keep.of_grown (grown_setC _ be _ _)) (fun i _ h => (Option.some.inj h).symm)⟩
        | exact ⟨0, rfl, HH1.out.setCell (E' := E.setSt 2 0) rfl rfl rfl rfl HBR.out.1 HBR.out.2, (Keep.of_below HB1.out).trans (Keep.of_grown (grown_setC _ be _ _)) (fun i _ h => (Option.some.inj h).symm)⟩
  · rw [if_neg hc]
    have t1 : (askC ⟨b1B, k, 0, by0, 3, d, true, false⟩ E == 0) = false := by rw [beq_eq_false_iff_ne]; exact hc
    generalize askC ⟨b1B, k, 0, by0, 3, d, true, false⟩ E = cd at *
    clear h hc hbr hbm
    go_enter Tryz.func20, Tryz.ntmps20
    go_wp2_with (first
      | ((with_reducible refine HA.out.mono ?_); rintro en w1 ⟨rfl, hb1⟩; have HB1 := Lib.hid hb1; have HH1 := Lib.hid (HH.out.below hb1); clear hb1)
      | fail)
    go_ret
    exact ⟨cd, rfl, HH1.out, Keep.of_below HB1.out⟩
/-- A bill that is ended: its first k originals are void. -/
def endE (E : En) (s : Int) (k : Nat) : En := ⟨s, if 0 < k then { E.o0 with st := 2 } else E.o0, if 1 < k then { E.o1 with st := 2 } else E.o1, if 2 < k then { E.o2 with st := 2 } else E.o2⟩
set_option maxHeartbeats 4000000 in
theorem end_any (s : Int) (E : En) (B br bm be : Nat) (vb vp v0 v1 v2 : Value) (m : ByteArray) (w : World) (h : Reg B w br bm be E vb vp v0 v1 v2 m) (hbr : br ≠ be) (hbm : bm ≠ be) :
    Calls Tryz.prog 73 #[.pointer (some ⟨be, 0, none⟩), .int .i64 s] w (fun e w' => e = .returned (.tuple #[]) ∧ Reg B w' br bm be (endE E s 3) vb vp v0 v1 v2 m ∧ Keep (fun x => x = be) w w') := by
  have HBR := Lib.hid (And.intro hbr hbm)
  have c9 : w.cell? ⟨be, 9, none⟩ = some (.int .i64 E.st) := cell_blk h.box 9
  have f9 := free_blk h.box 9
  have H0 : Hid (Reg B (w.setCell ⟨be, 9, none⟩ (.int .i64 s)) br bm be (endE E s 0) vb vp v0 v1 v2 m) := Lib.hid (h.setCell rfl rfl rfl rfl hbr hbm)
  have K0 : Hid (Keep (fun x => x = be) w (w.setCell ⟨be, 9, none⟩ (.int .i64 s))) := Lib.hid (Keep.of_grown (grown_setC w be 9 _) |>.mono fun i _ h => (Option.some.inj h).symm)
  clear h hbr hbm
  go_enter Tryz.func73, Tryz.ntmps73
  go_wp2_with fail
  go_loopw [4, 9] (fun _ i wr => ∃ k : Nat, k ≤ 3 ∧ i = .int .i64 k ∧ Reg B wr br bm be (endE E s k) vb vp v0 v1 v2 m ∧ Keep (fun x => x = be) w wr) (fun _ i _ => 3 - (intOf i).toNat)
  case atStart => exact ⟨0, by decide, rfl, H0.out, K0.out⟩
  case round =>
    obtain ⟨k, hk, rfl, hr, hkp⟩ := hrel
    have HH1 := Lib.hid hr
    have HKP := Lib.hid hkp
    clear hr hkp c9 f9
    obtain rfl | rfl | rfl | rfl : k = 0 ∨ k = 1 ∨ k = 2 ∨ k = 3 := by omega
    · have x0 : wr.cell? ⟨be, 10, none⟩ = some (.int .i64 E.o0.st) := cell_blk HH1.out.box 10
      have f0 := free_blk HH1.out.box 10
      go_wp2_with fail
      go_roundw
      case rel => exact ⟨1, by decide, rfl, HH1.out.setCell (E' := endE E s 1) rfl rfl rfl rfl HBR.out.1 HBR.out.2, HKP.out.trans (Keep.of_grown (grown_setC _ be _ _)) (fun i _ h => (Option.some.inj h).symm)⟩
      case measure => simp [intOf]
    · have x1 : wr.cell? ⟨be, 13, none⟩ = some (.int .i64 E.o1.st) := cell_blk HH1.out.box 13
      have f1 := free_blk HH1.out.box 13
      go_wp2_with fail
      go_roundw
      case rel => exact ⟨2, by decide, rfl, HH1.out.setCell (E' := endE E s 2) rfl rfl rfl rfl HBR.out.1 HBR.out.2, HKP.out.trans (Keep.of_grown (grown_setC _ be _ _)) (fun i _ h => (Option.some.inj h).symm)⟩
      case measure => simp [intOf]
    · have x2 : wr.cell? ⟨be, 16, none⟩ = some (.int .i64 E.o2.st) := cell_blk HH1.out.box 16
      have f2 := free_blk HH1.out.box 16
      go_wp2_with fail
      go_roundw
      case rel => exact ⟨3, by decide, rfl, HH1.out.setCell (E' := endE E s 3) rfl rfl rfl rfl HBR.out.1 HBR.out.2, HKP.out.trans (Keep.of_grown (grown_setC _ be _ _)) (fun i _ h => (Option.some.inj h).symm)⟩
      case measure => simp [intOf]
    · go_wp2_with fail
      go_end0
      exact ⟨rfl, HH1.out, HKP.out⟩
end Go.Proofs.YtbigoifpfkdkjaaGreatDoor.Sc
namespace Go.Proofs.YtbigoifpfkdkjaaGreatDoor.Sc
open Go Go.RowKit Go.ChangeShapes Go.WideShapes Go.ChangeAt
set_option maxRecDepth 100000

theorem strs_one (l : List ByteArray) : ∀ u ∈ strCells l, u.oneCell' = true := by
  intro u hu
  obtain ⟨y, _, rfl⟩ := List.mem_map.1 hu
  rfl
theorem eds_one (l : List Ed) : ∀ u ∈ edCells l, u.oneCell' = true := by
  intro u hu
  obtain ⟨y, _, hy⟩ := List.mem_flatMap.1 hu
  exact ed_one y u hy
set_option maxHeartbeats 1000000 in
theorem cloneStr_any (l : List ByteArray) (v : Value) (w : World) (hs : Sl w 1 v (l.map stRow)) (hlen : l.length ≤ 1000000) : Calls Tryz.prog 74 #[v] w (RetRow w 9 1 l.length (strCells l)) := by
  obtain ⟨i0, hi, hz, hsz, hby⟩ := info_parts infoStr
  have HI := Lib.hid (And.intro hi (And.intro hz (And.intro hsz hby)))
  clear hi hz hsz hby
  have hsrc := (hs.below (one_below w (.cells #[] 9)) (Nat.le_refl _)).src (by intro r hr; obtain ⟨d, _, rfl⟩ := List.mem_map.1 hr; rfl) (by decide)
  rw [List.length_map, show (l.map stRow).flatten = strCells l from (strCells_flat l).symm] at hsrc
  have HSRC := Lib.hid hsrc
  obtain ⟨a, c, rfl⟩ : ∃ a c, v = .slice a l.length c := by simpa using hs.shape
  have HL : Hid (0 + l.length ≤ maxLen ∧ (0 + l.length) * 16 ≤ 140737488355328) := Lib.hid (by simp only [maxLen]; omega)
  cases a with
  | none =>
    have h0 : l = [] ∧ c = 0 := by
      rcases hs with ⟨h, a, c', hv, hn⟩ | ⟨b, off, cap, hv, _⟩
      · simp only [Value.slice.injEq] at hv
        exact ⟨by simpa using h, by rw [hv.2.2]; exact hn hv.1.symm⟩
      · cases hv
    obtain ⟨rfl, rfl⟩ := h0
    clear hs hsrc HSRC HL
    have hq := fun w : World => Lib.run_eql_slice_nil (P := Tryz.prog) w
    go_enter Tryz.func74, Tryz.ntmps74
    go_wp2
    go_ret
    exact ⟨_, rfl, World.ownsRow_nil _ _ _ _, Below.refl _ _⟩
  | some ad =>
    clear hs hsrc hlen
    generalize l.length = n at *
    have hq : ∀ w : World, (binOp .eql 55 (.slice (some ad) n c) (.slice none 0 0)).run Tryz.prog w = .ok (.bool false) w := fun _ => rfl
    go_enter Tryz.func74, Tryz.ntmps74
    go_wp2_with (first
      | ((refine Any.wpl_append (size := 1) (bytes := 16) (n := 0) (m := n) (base := w.heap.size) (vx := .slice (some ⟨w.heap.size, 0, none⟩) 0 0) (vy := .slice (some ad) n c) ?_ ?_ ?_ Tryz.underlying55 HI.out.1 HI.out.2.1 HI.out.2.2.1 HI.out.2.2.2 ?_ (by decide) (own_empty (Nat.le_refl _)) HSRC.out (strs_one _) HL.out.1 HL.out.2 (by simp) ?_); rfl; rfl; rfl; rfl; intro v1 w1 hown1 hgrow1 hwho1)
      | fail)
    go_ret
    refine ⟨v1, rfl, by simpa using hown1, (one_below w (.cells #[] 9)).grown hgrow1 (by simp) (fun k hk => by have : w.heap.size = k := Option.some.inj hk; omega)⟩
set_option maxHeartbeats 1000000 in
theorem cloneEd_any (l : List Ed) (v : Value) (w : World) (hs : Sl w 4 v (l.map Ed.row)) (hlen : l.length ≤ 1000000) : Calls Tryz.prog 76 #[v] w (RetRow w 75 4 l.length (edCells l)) := by
  obtain ⟨i0, hi, hz, hsz, hby⟩ := info_parts infoEd
  have HI := Lib.hid (And.intro hi (And.intro hz (And.intro hsz hby)))
  clear hi hz hsz hby
  have hsrc := (hs.below (one_below w (.cells #[] 75)) (Nat.le_refl _)).src (by intro r hr; obtain ⟨d, _, rfl⟩ := List.mem_map.1 hr; rfl) (by decide)
  rw [List.length_map, show (l.map Ed.row).flatten = edCells l from by simp [edCells, List.flatMap]] at hsrc
  have HSRC := Lib.hid hsrc
  obtain ⟨a, c, rfl⟩ : ∃ a c, v = .slice a l.length c := by simpa using hs.shape
  have HL : Hid (0 + l.length ≤ maxLen ∧ (0 + l.length) * 48 ≤ 140737488355328) := Lib.hid (by simp only [maxLen]; omega)
  cases a with
  | none =>
    have h0 : l = [] ∧ c = 0 := by
      rcases hs with ⟨h, a, c', hv, hn⟩ | ⟨b, off, cap, hv, _⟩
      · simp only [Value.slice.injEq] at hv
        exact ⟨by simpa using h, by rw [hv.2.2]; exact hn hv.1.symm⟩
      · cases hv
    obtain ⟨rfl, rfl⟩ := h0
    clear hs hsrc HSRC HL
    have hq := fun w : World => Lib.run_eql_slice_nil (P := Tryz.prog) w
    go_enter Tryz.func76, Tryz.ntmps76
    go_wp2
    go_ret
    exact ⟨_, rfl, World.ownsRow_nil _ _ _ _, Below.refl _ _⟩
  | some ad =>
    clear hs hsrc hlen
    generalize l.length = n at *
    have hq : ∀ w : World, (binOp .eql 70 (.slice (some ad) n c) (.slice none 0 0)).run Tryz.prog w = .ok (.bool false) w := fun _ => rfl
    go_enter Tryz.func76, Tryz.ntmps76
    go_wp2_with (first
      | ((refine Any.wpl_append (size := 4) (bytes := 48) (n := 0) (m := n) (base := w.heap.size) (vx := .slice (some ⟨w.heap.size, 0, none⟩) 0 0) (vy := .slice (some ad) n c) ?_ ?_ ?_ Tryz.underlying70 HI.out.1 HI.out.2.1 HI.out.2.2.1 HI.out.2.2.2 ?_ (by decide) (own_empty (Nat.le_refl _)) HSRC.out (eds_one _) HL.out.1 HL.out.2 (by simp) ?_); rfl; rfl; rfl; rfl; intro v1 w1 hown1 hgrow1 hwho1)
      | fail)
    go_ret
    refine ⟨v1, rfl, by simpa using hown1, (one_below w (.cells #[] 75)).grown hgrow1 (by simp) (fun k hk => by have : w.heap.size = k := Option.some.inj hk; omega)⟩
set_option maxHeartbeats 4000000 in
theorem surrender_any (k : Int) (kn : Nat) (hk : (k = 0 ∧ kn = 0) ∨ (k = 1 ∧ kn = 1) ∨ (k = 2 ∧ kn = 2)) (by0 : ByteArray) (d : Int) (E : En) (B br bm be : Nat) (vb vp v0 v1 v2 : Value) (m : ByteArray) (w : World) (h : Reg B w br bm be E vb vp v0 v1 v2 m) (hbr : br ≠ be) (hbm : bm ≠ be) :
    Calls Tryz.prog 21 #[.pointer (some ⟨br, 0, none⟩), .string b1B, .int .i64 k, .string by0, .int .i64 d] w (fun e w' => ∃ v c, e = .returned (.tuple #[v, .int .i64 c]) ∧ Reg B w' br bm be (if askC ⟨b1B, k, 0, by0, 0, d, true, false⟩ E = 0 then (endE E 1 3).setSt kn 1 else E) vb vp v0 v1 v2 m ∧ Keep (fun x => x = be) w w') := by
  have HA := Lib.hid (ask_any ⟨b1B, k, 0, by0, 0, d, true, false⟩ E br bm be vb vp v0 v1 v2 w rfl h.rg h.en)
  simp only [Ac.cells] at HA
  have HH := Lib.hid h
  have hse : ∀ W : World, Mp.look false (Mp.mget [(b1B, .pointer (some ⟨be, 0, none⟩))] b1B) (.pointer none) = .pointer (some ⟨be, 0, none⟩) := fun _ => rfl
  by_cases hc : askC ⟨b1B, k, 0, by0, 0, d, true, false⟩ E = 0
  · rw [if_pos hc]
    rw [hc] at HA
    have HBR := Lib.hid (And.intro hbr hbm)
    have HEN := Lib.hid (fun W (h : Reg B W br bm be E vb vp v0 v1 v2 m) => end_any 1 E B br bm be vb vp v0 v1 v2 m W h hbr hbm)
    have HCL := Lib.hid (fun (E : En) W (h : Reg B W br bm be E vb vp v0 v1 v2 m) => cloneStr_any [m] vb W (own_strs h.bx rfl) (by simp))
    clear h hc hbr hbm
    obtain ⟨rfl, rfl⟩ | ⟨rfl, rfl⟩ | ⟨rfl, rfl⟩ := hk
    · have HS3 := Lib.hid (fun W (h : Reg B W br bm be (endE E 1 3) vb vp v0 v1 v2 m) => h.setCell (E' := (endE E 1 3).setSt 0 1) (o := 10) (u := .int .i64 1) rfl rfl rfl rfl HBR.out.1 HBR.out.2)
      go_enter Tryz.func21, Tryz.ntmps21
      go_wp2_with (first
        | ((with_reducible refine HA.out.mono ?_); rintro en w1 ⟨rfl, hb1⟩; have HB1 := Lib.hid hb1; have HH1 := Lib.hid (HH.out.below hb1); clear hb1; have c1 : w1.cell? ⟨br, 1, none⟩ = some (.map (some bm)) := cell_blk HH1.out.rg.rb 1)
        | ((with_reducible refine Mp.wpl_lookup (b := bm) (l := [(b1B, .pointer (some ⟨be, 0, none⟩))]) (key := b1B) ?_ ?_ ?_ Tryz.underlying133 Tryz.underlying9 (zeroEn _) HH1.out.rg.mp ?_); rfl; rfl; rfl; rw [hse w1])
        | ((with_reducible refine (HEN.out w1 HH1.out).mono ?_); rintro en w2 ⟨rfl, hr2, hk2⟩; have HH2 := Lib.hid hr2; have HK2 := Lib.hid hk2; clear hr2 hk2 c1; have c5 : w2.cell? ⟨be, 5, none⟩ = some vb := cell_blk HH2.out.box 5; have x0 : w2.cell? ⟨be, 10, none⟩ = some (.int .i64 2) := cell_blk HH2.out.box 10; have f0 := free_blk HH2.out.box 10; have HH3 := Lib.hid (HS3.out w2 HH2.out))
        | ((with_reducible refine (HCL.out _ _ HH3.out).mono ?_); rintro en w4 ⟨v4, rfl, ho4, hb4⟩; have HH4 := Lib.hid (HH3.out.below hb4); have HB4 := Lib.hid hb4; clear ho4 hb4)
        | fail)
      go_ret2
      exact ⟨v4, 0, rfl, HH4.out, ((Keep.of_below HB1.out).trans HK2.out (fun i _ h => h)).trans ((Keep.of_grown (grown_setC w2 be 10 _)).trans (Keep.of_below HB4.out) (fun i _ h => h)) (fun i _ h => (Option.some.inj h).symm)⟩
    · have HS3 := Lib.hid (fun W (h : Reg B W br bm be (endE E 1 3) vb vp v0 v1 v2 m) => h.setCell (E' := (endE E 1 3).setSt 1 1) (o := 13) (u := .int .i64 1) rfl rfl rfl rfl HBR.out.1 HBR.out.2)
      go_enter Tryz.func21, Tryz.ntmps21
      go_wp2_with (first
        | ((with_reducible refine HA.out.mono ?_); rintro en w1 ⟨rfl, hb1⟩; have HB1 := Lib.hid hb1; have HH1 := Lib.hid (HH.out.below hb1); clear hb1; have c1 : w1.cell? ⟨br, 1, none⟩ = some (.map (some bm)) := cell_blk HH1.out.rg.rb 1)
        | ((with_reducible refine Mp.wpl_lookup (b := bm) (l := [(b1B, .pointer (some ⟨be, 0, none⟩))]) (key := b1B) ?_ ?_ ?_ Tryz.underlying133 Tryz.underlying9 (zeroEn _) HH1.out.rg.mp ?_); rfl; rfl; rfl; rw [hse w1])
        | ((with_reducible refine (HEN.out w1 HH1.out).mono ?_); rintro en w2 ⟨rfl, hr2, hk2⟩; have HH2 := Lib.hid hr2; have HK2 := Lib.hid hk2; clear hr2 hk2 c1; have c5 : w2.cell? ⟨be, 5, none⟩ = some vb := cell_blk HH2.out.box 5; have x0 : w2.cell? ⟨be, 13, none⟩ = some (.int .i64 2) := cell_blk HH2.out.box 13; have f0 := free_blk HH2.out.box 13; have HH3 := Lib.hid (HS3.out w2 HH2.out))
        | ((with_reducible refine (HCL.out _ _ HH3.out).mono ?_); rintro en w4 ⟨v4, rfl, ho4, hb4⟩; have HH4 := Lib.hid (HH3.out.below hb4); have HB4 := Lib.hid hb4; clear ho4 hb4)
        | fail)
      go_ret2
      exact ⟨v4, 0, rfl, HH4.out, ((Keep.of_below HB1.out).trans HK2.out (fun i _ h => h)).trans ((Keep.of_grown (grown_setC w2 be 13 _)).trans (Keep.of_below HB4.out) (fun i _ h => h)) (fun i _ h => (Option.some.inj h).symm)⟩
    · have HS3 := Lib.hid (fun W (h : Reg B W br bm be (endE E 1 3) vb vp v0 v1 v2 m) => h.setCell (E' := (endE E 1 3).setSt 2 1) (o := 16) (u := .int .i64 1) rfl rfl rfl rfl HBR.out.1 HBR.out.2)
      go_enter Tryz.func21, Tryz.ntmps21
      go_wp2_with (first
        | ((with_reducible refine HA.out.mono ?_); rintro en w1 ⟨rfl, hb1⟩; have HB1 := Lib.hid hb1; have HH1 := Lib.hid (HH.out.below hb1); clear hb1; have c1 : w1.cell? ⟨br, 1, none⟩ = some (.map (some bm)) := cell_blk HH1.out.rg.rb 1)
        | ((with_reducible refine Mp.wpl_lookup (b := bm) (l := [(b1B, .pointer (some ⟨be, 0, none⟩))]) (key := b1B) ?_ ?_ ?_ Tryz.underlying133 Tryz.underlying9 (zeroEn _) HH1.out.rg.mp ?_); rfl; rfl; rfl; rw [hse w1])
        | ((with_reducible refine (HEN.out w1 HH1.out).mono ?_); rintro en w2 ⟨rfl, hr2, hk2⟩; have HH2 := Lib.hid hr2; have HK2 := Lib.hid hk2; clear hr2 hk2 c1; have c5 : w2.cell? ⟨be, 5, none⟩ = some vb := cell_blk HH2.out.box 5; have x0 : w2.cell? ⟨be, 16, none⟩ = some (.int .i64 2) := cell_blk HH2.out.box 16; have f0 := free_blk HH2.out.box 16; have HH3 := Lib.hid (HS3.out w2 HH2.out))
        | ((with_reducible refine (HCL.out _ _ HH3.out).mono ?_); rintro en w4 ⟨v4, rfl, ho4, hb4⟩; have HH4 := Lib.hid (HH3.out.below hb4); have HB4 := Lib.hid hb4; clear ho4 hb4)
        | fail)
      go_ret2
      exact ⟨v4, 0, rfl, HH4.out, ((Keep.of_below HB1.out).trans HK2.out (fun i _ h => h)).trans ((Keep.of_grown (grown_setC w2 be 16 _)).trans (Keep.of_below HB4.out) (fun i _ h => h)) (fun i _ h => (Option.some.inj h).symm)⟩
  · rw [if_neg hc]
    have t1 : (askC ⟨b1B, k, 0, by0, 0, d, true, false⟩ E != 0) = true := by rw [bne_iff_ne]; exact hc
    generalize askC ⟨b1B, k, 0, by0, 0, d, true, false⟩ E = cd at *
    clear h hc hbr hbm
    go_enter Tryz.func21, Tryz.ntmps21
    go_wp2_with (first
      | ((with_reducible refine HA.out.mono ?_); rintro en w1 ⟨rfl, hb1⟩; have HB1 := Lib.hid hb1; have HH1 := Lib.hid (HH.out.below hb1); clear hb1)
      | fail)
    go_ret2
    exact ⟨_, cd, rfl, HH1.out, Keep.of_below HB1.out⟩
end Go.Proofs.YtbigoifpfkdkjaaGreatDoor.Sc
namespace Go.Proofs.YtbigoifpfkdkjaaGreatDoor.Sc
open Go Go.RowKit Go.ChangeShapes Go.WideShapes Go.ChangeAt

/-- A credit, as its cells hold it. -/
structure Cr where
  s0 : ByteArray
  s1 : ByteArray
  s2 : ByteArray
  s3 : ByteArray
  s4 : ByteArray
  s5 : ByteArray
  s6 : ByteArray
  cur : ByteArray
  sum : Int
  above : Int
  below : Int
  latest : Int
  expiry : Int
  within : Int
  tenor : Int
  part : Bool
  change : Bool
  na : Option Addr
  nl : Nat
  nc : Nat

def Cr.cells (c : Cr) : Array Value := #[.string c.s0, .string c.s1, .string c.s2, .string c.s3, .string c.s4, .string c.s5, .string c.s6, .string c.cur, .int .i64 c.sum, .int .i64 c.above, .int .i64 c.below, .int .i64 c.latest, .int .i64 c.expiry, .int .i64 c.within, .int .i64 c.tenor, .bool c.part, .bool c.change, .slice c.na c.nl c.nc]
@[go_sem] theorem Cr.cell0 (c : Cr) : c.cells[0]? = some (.string c.s0) := rfl
@[go_sem] theorem Cr.cell1 (c : Cr) : c.cells[1]? = some (.string c.s1) := rfl
@[go_sem] theorem Cr.cell2 (c : Cr) : c.cells[2]? = some (.string c.s2) := rfl
@[go_sem] theorem Cr.cell3 (c : Cr) : c.cells[3]? = some (.string c.s3) := rfl
@[go_sem] theorem Cr.cell4 (c : Cr) : c.cells[4]? = some (.string c.s4) := rfl
@[go_sem] theorem Cr.cell5 (c : Cr) : c.cells[5]? = some (.string c.s5) := rfl
@[go_sem] theorem Cr.cell6 (c : Cr) : c.cells[6]? = some (.string c.s6) := rfl
@[go_sem] theorem Cr.cell7 (c : Cr) : c.cells[7]? = some (.string c.cur) := rfl
@[go_sem] theorem Cr.cell8 (c : Cr) : c.cells[8]? = some (.int .i64 c.sum) := rfl
@[go_sem] theorem Cr.cell9 (c : Cr) : c.cells[9]? = some (.int .i64 c.above) := rfl
@[go_sem] theorem Cr.cell10 (c : Cr) : c.cells[10]? = some (.int .i64 c.below) := rfl
@[go_sem] theorem Cr.cell11 (c : Cr) : c.cells[11]? = some (.int .i64 c.latest) := rfl
@[go_sem] theorem Cr.cell12 (c : Cr) : c.cells[12]? = some (.int .i64 c.expiry) := rfl
@[go_sem] theorem Cr.cell13 (c : Cr) : c.cells[13]? = some (.int .i64 c.within) := rfl
@[go_sem] theorem Cr.cell14 (c : Cr) : c.cells[14]? = some (.int .i64 c.tenor) := rfl
@[go_sem] theorem Cr.cell15 (c : Cr) : c.cells[15]? = some (.bool c.part) := rfl
@[go_sem] theorem Cr.cell16 (c : Cr) : c.cells[16]? = some (.bool c.change) := rfl
@[go_sem] theorem Cr.cell17 (c : Cr) : c.cells[17]? = some (.slice c.na c.nl c.nc) := rfl
@[go_sem] theorem Cr.cells_size (c : Cr) : c.cells.size = 18 := rfl
def Cr.withAbove (c : Cr) (x : Int) : Cr := { c with above := x }
def Cr.withBelow (c : Cr) (x : Int) : Cr := { c with below := x }
@[go_sem] theorem Cr.set9 (c : Cr) (x : Int) : c.cells.setIfInBounds 9 (.int .i64 x) = (c.withAbove x).cells := rfl
@[go_sem] theorem Cr.set10 (c : Cr) (x : Int) : c.cells.setIfInBounds 10 (.int .i64 x) = (c.withBelow x).cells := rfl
theorem cr_info : (Tryz.prog.info? 30).map (·.size) = some 18 := by kernel_rfl
theorem cr_under : ∃ fs, Tryz.prog.underlying 30 = some (.struct fs) := ⟨_, Tryz.underlying30⟩

section
variable {ops : Array Oper} {rest : List Oper} {a : Act} {w : World} {Q : Exit → Act → World → Prop} {dst : Option Tmp} {t : TypeId} {pos : String} {after : Array Edge}
theorem setRow_new (w : World) (old cs : Array Value) (t' : TypeId) : (w.alloc (.cells old t' (0, 0))).setRow w.heap.size cs = w.alloc (.cells cs t' (0, 0)) := by
  have h : (w.heap.push (Obj.cells old t' (0, 0))).modify w.heap.size (fun | .cells _ e f => .cells cs e f | o => o) = w.heap.push (.cells cs t' (0, 0)) := by
    apply Array.ext_getElem?
    intro i
    rw [Array.getElem?_modify, Array.getElem?_push, Array.getElem?_push]
    by_cases h : i = w.heap.size
    · subst h; simp
    · rw [if_neg (fun e => h e.symm), if_neg h, if_neg h]
  show ({ w with heap := (w.heap.push (Obj.cells old t' (0, 0))).modify w.heap.size _ } : World) = { w with heap := w.heap.push _ }
  rw [← h]
  rfl
def Cr.zero : Cr := ⟨.empty, .empty, .empty, .empty, .empty, .empty, .empty, .empty, 0, 0, 0, 0, 0, 0, 0, false, false, none, 0, 0⟩
theorem run_alloc_cr (w : World) : (execOp (Act.eval a) ⟨dst, .alloc 30, t, pos, after, none⟩).run Tryz.prog w = .ok (.value (.pointer (some ⟨w.heap.size, 0, none⟩))) (w.alloc (.cells Cr.zero.cells 30 (0, 0))) := by
  kernel_rfl
theorem cr_one (c : Cr) : (c.cells.all fun x => x.oneCell') = true := by simp [Cr.cells, Value.oneCell']
/-- A new box, and a whole credit stored into it. -/
theorem new_cr (d : Tmp) (y : Operand) (c : Cr) {t1 t2 : TypeId} {p1 p2 : String} {e1 e2 : Array Edge} (hd : (a.put (some d) (.pointer (some ⟨w.heap.size, 0, none⟩))).eval (.tmp d) = .pointer (some ⟨w.heap.size, 0, none⟩))
    (hy : (a.put (some d) (.pointer (some ⟨w.heap.size, 0, none⟩))).eval y = .agg c.cells)
    (h : wpList Tryz.prog ops Q rest ((a.put (some d) (.pointer (some ⟨w.heap.size, 0, none⟩))).put none undef) (w.alloc (.cells c.cells 30))) :
    wpList Tryz.prog ops Q (⟨some d, .alloc 30, t1, p1, e1, none⟩ :: ⟨none, .store 30 (.tmp d) y, t2, p2, e2, none⟩ :: rest) a w := by
  refine wpList_plain rfl fun K hK => ?_
  have hr := run_alloc_cr (a := a) (dst := some d) (t := t1) (pos := p1) (after := e1) w
  unfold Oper.wp
  rw [hr]
  refine hK _ _ ?_
  refine wpList_store_row rfl _ _ _ rfl w.heap.size c.cells hd hy _ Cr.zero.cells (heap_alloc_new _ _) (by rw [cr_info]; rfl) rfl (cr_one c) ?_
  rw [setRow_new]
  exact h
/-- A new box. -/
theorem alloc_cr (h : wpList Tryz.prog ops Q rest (a.put dst (.pointer (some ⟨w.heap.size, 0, none⟩))) (w.alloc (.cells Cr.zero.cells 30))) :
    wpList Tryz.prog ops Q (⟨dst, .alloc 30, t, pos, after, none⟩ :: rest) a w := by
  refine wpList_plain rfl fun K hK => ?_
  have hr := run_alloc_cr (a := a) (dst := dst) (t := t) (pos := pos) (after := after) w
  unfold Oper.wp
  rw [hr]
  exact hK _ _ h
/-- A whole credit stored into the newest box. -/
theorem store_cr (x y : Operand) (c c0 : Cr) (hx : a.eval x = .pointer (some ⟨w.heap.size, 0, none⟩)) (hy : a.eval y = .agg c.cells)
    (h : wpList Tryz.prog ops Q rest (a.put none undef) (w.alloc (.cells c.cells 30))) :
    wpList Tryz.prog ops Q (⟨none, .store 30 x y, t, pos, after, none⟩ :: rest) a (w.alloc (.cells c0.cells 30)) := by
  refine wpList_store_row rfl _ _ _ rfl w.heap.size c.cells hx hy _ c0.cells (heap_alloc_new _ _) (by rw [cr_info]; rfl) rfl (cr_one c) ?_
  rw [setRow_new]
  exact h
/-- A whole credit loaded out of its box. -/
theorem load_cr {gd : Option (Nat × Bool)} (x : Operand) (g : Nat) (c : Cr) (t' : TypeId) (hw : Region.wanted ⟨dst, .load 30 x, t, pos, after, gd⟩ (yielded ops a.tmps) = true) (hx : a.eval x = .pointer (some ⟨g, 0, none⟩)) (hg : w.heap[g]? = some (.cells c.cells t' (0, 0)))
    (h : wpList Tryz.prog ops Q rest (a.put dst (.agg c.cells)) w) : wpList Tryz.prog ops Q (⟨dst, .load 30 x, t, pos, after, gd⟩ :: rest) a w := by
  obtain ⟨fs, hu⟩ := cr_under
  refine wpList_step fun K hK => ?_
  rw [if_pos hw]
  exact wp_load_row _ x rfl g hx t' c.cells (0, 0) _ hg hu rfl (by rw [cr_info]; rfl) (hK _ _ h)
end
def tol (n : Int) : Bool := decide (0 ≤ n) && decide (n ≤ 1000)
def Cr.bnd (c : Cr) : Bool := decide (1 ≤ c.sum) && decide (c.sum ≤ 1099511627776) && tol c.above && tol c.below && decide (0 ≤ c.expiry) && decide (c.expiry ≤ 1048576)
def Cr.most (c : Cr) : Int := c.sum * (1000 + c.above) / 1000
def Cr.least (c : Cr) : Int := (c.sum * (1000 - c.below) + 999) / 1000

structure Bnd (c : Cr) : Prop where
  s1 : 1 ≤ c.sum
  s2 : c.sum ≤ 1099511627776
  a1 : 0 ≤ c.above
  a2 : c.above ≤ 1000
  b1 : 0 ≤ c.below
  b2 : c.below ≤ 1000
  e1 : 0 ≤ c.expiry
  e2 : c.expiry ≤ 1048576

theorem bnd_iff (c : Cr) : c.bnd = true ↔ Bnd c := by
  simp only [Cr.bnd, tol, Bool.and_eq_true, decide_eq_true_eq]
  constructor
  · rintro ⟨⟨⟨⟨⟨h1, h2⟩, h3, h4⟩, h5, h6⟩, h7⟩, h8⟩; exact ⟨h1, h2, h3, h4, h5, h6, h7, h8⟩
  · rintro ⟨h1, h2, h3, h4, h5, h6, h7, h8⟩; exact ⟨⟨⟨⟨⟨h1, h2⟩, h3, h4⟩, h5, h6⟩, h7⟩, h8⟩

theorem most_bd (s a : Int) (h1 : 1 ≤ s) (h2 : s ≤ 1099511627776) (h3 : 0 ≤ a) (h4 : a ≤ 1000) : s ≤ s * (1000 + a) ∧ s * (1000 + a) ≤ 2199023255552000 ∧ 1000 * s ≤ s * (1000 + a) ∧ s * (1000 + a) ≤ 2000 * s := by
  have e1 : s * (1000 + a) = 1000 * s + s * a := by rw [Int.mul_add]; omega
  have e2 : 0 ≤ s * a := Int.mul_nonneg (by omega) h3
  have e3 : s * a ≤ s * 1000 := Int.mul_le_mul_of_nonneg_left h4 (by omega)
  omega
theorem least_bd (s a : Int) (h1 : 1 ≤ s) (h2 : s ≤ 1099511627776) (h3 : 0 ≤ a) (h4 : a ≤ 1000) : 0 ≤ s * (1000 - a) ∧ s * (1000 - a) ≤ 1000 * s := by
  have e1 : s * (1000 - a) = 1000 * s - s * a := by rw [Int.mul_sub]; omega
  have e2 : 0 ≤ s * a := Int.mul_nonneg (by omega) h3
  have e3 : s * a ≤ s * 1000 := Int.mul_le_mul_of_nonneg_left h4 (by omega)
  omega

theorem tolerant_any (n : Int) (w : World) : Calls Tryz.prog 101 #[.int .i64 n] w fun e w' => e = .returned (.bool (tol n)) ∧ w = w' := by
  by_cases h0 : 0 ≤ n
  · by_cases h1 : n ≤ 1000
    · have hf : tol n = true := by simp [tol, h0, h1]
      rw [hf]; clear hf
      go_enter Tryz.func101, Tryz.ntmps101
      go_wp2
      go_ret
      exact ⟨rfl, rfl⟩
    · have hf : tol n = false := by simp [tol, h0, h1]
      rw [hf]; clear hf
      go_enter Tryz.func101, Tryz.ntmps101
      go_wp2
      go_ret
      exact ⟨rfl, rfl⟩
  · have hf : tol n = false := by simp [tol, h0]
    rw [hf]; clear hf
    go_enter Tryz.func101, Tryz.ntmps101
    go_wp2
    go_ret
    exact ⟨rfl, rfl⟩

set_option maxHeartbeats 1000000 in
theorem bounded_any (c : Cr) (w : World) : Calls Tryz.prog 39 #[.agg c.cells] w (RetB w c.bnd) := by
  go_enter Tryz.func39, Tryz.ntmps39
  go_wp2_with (go_at_call 101; refine (tolerant_any _ _).mono ?_; rintro e w' ⟨rfl, rfl⟩)
  all_goals
    go_ret
    refine retB ?_ ((Below.refl _ _).alloc (Nat.le_refl _) _)
    simp [Cr.bnd, *]
  all_goals omega


theorem most_num (s a : Int) (h : 0 ≤ s * (1000 + a)) : s * (1000 + a) / 1000 = (s * (1000 + a)).tdiv 1000 := by
  rw [Int.tdiv_eq_ediv_of_nonneg h]

/-- The most, of a credit whose bounds may be. -/
theorem most_any (c : Cr) (w : World) (hb : Bnd c) : Calls Tryz.prog 40 #[.agg c.cells] w (Ret w (.int .i64 c.most)) := by
  obtain ⟨h1, h2, h3, h4, h5, h6, h7, h8⟩ := hb
  obtain ⟨m1, m2, m3, m4⟩ := most_bd c.sum c.above h1 h2 h3 h4
  go_enter Tryz.func40, Tryz.ntmps40
  go_wp2
  go_ret
  exact ⟨rfl, (Below.refl _ _).alloc (Nat.le_refl _) _⟩

theorem least_any (c : Cr) (w : World) (hb : Bnd c) : Calls Tryz.prog 54 #[.agg c.cells] w (Ret w (.int .i64 c.least)) := by
  obtain ⟨h1, h2, h3, h4, h5, h6, h7, h8⟩ := hb
  obtain ⟨m1, m2⟩ := least_bd c.sum c.below h1 h2 h5 h6
  go_enter Tryz.func54, Tryz.ntmps54
  go_wp2
  go_ret
  exact ⟨ret_int (by simp only [Cr.least]; omega), (Below.refl _ _).alloc (Nat.le_refl _) _⟩


end Go.Proofs.YtbigoifpfkdkjaaGreatDoor.Sc
namespace Go.Proofs.YtbigoifpfkdkjaaGreatDoor.Sc
open Go Go.RowKit Go.ChangeShapes Go.WideShapes Go.ChangeAt

def RetM (w : World) (c : Cr) : Ending → World → Prop := Ret w (.tuple #[.int .i64 (if c.bnd then c.most else 0), .int .i64 (if c.bnd then 0 else 1)])
theorem retM_no {c : Cr} {w w' : World} (h : ¬ c.bnd = true) (hb : Below w.heap.size w w') : RetM w c (.returned (.tuple #[.int .i64 0, .int .i64 1])) w' := ⟨by simp [h], hb⟩
theorem retM_yes {c : Cr} {w w' : World} (h : c.bnd = true) (hb : Below w.heap.size w w') : RetM w c (.returned (.tuple #[.int .i64 c.most, .int .i64 0])) w' := ⟨by simp [h], hb⟩
set_option maxHeartbeats 1000000 in
theorem Most_any (c : Cr) (w : World) : Calls Tryz.prog 7 #[.agg c.cells] w (RetM w c) := by
  have h0 := heap_alloc_new w (.cells c.cells 30)
  go_enter Tryz.func7, Tryz.ntmps7
  go_wp2_with (first | (refine load_cr (.tmp 1) w.heap.size c _ rfl rfl h0 ?_) | fail)
  refine (bounded_any c _).mono ?_
  rintro e w1 ⟨rfl, hb⟩
  have h1 := blk hb (by simp) h0
  have hz := size_new hb
  have hb1 := below_new hb
  clear hb h0
  go_wp2_with (first | (refine load_cr (.tmp 1) w.heap.size c _ rfl rfl h1 ?_) | fail)
  · go_ret2
    exact retM_no (by simpa using ‹(!c.bnd) = true›) hb1
  · have hc : c.bnd = true := by simpa using ‹(!c.bnd) = false›
    refine (most_any c _ ((bnd_iff c).1 hc)).mono ?_
    rintro e w2 ⟨rfl, hb2⟩
    go_wp2_with fail
    go_ret2
    exact retM_yes hc (below_then hb1 hb2)

end Go.Proofs.YtbigoifpfkdkjaaGreatDoor.Sc
