/- What is due, by the program: the due names, sorted. -/
import Derived.Test.YtehlhfcaajhhaaaDueR45
import Derived.Test.YtehlhfcaajhhaaaPutS
namespace Go.Proofs.Ytehlhfcaajhhaaa.Sc
open Go Go.RowKit Go.ChangeShapes Go.WideShapes Go.ChangeAt
set_option maxRecDepth 100000

theorem size_al (w : World) (o : Obj) : (w.alloc o).heap.size = w.heap.size + 1 := by simp
def dueNames (l : List Bx) (day : Int) : List ByteArray := (l.filter (isDue day)).map Bx.name
theorem dueR_eq (l : List Bx) (day : Int) : dueR l day = putAll (dueNames l day) := by
  have : ∀ (l : List Bx) (out : List ByteArray), l.foldl (fun out b => if isDue day b then putS out b.name else out) out = (dueNames l day).foldl putS out := by
    intro l
    induction l with
    | nil => exact fun _ => rfl
    | cons b r ih =>
      intro out
      rw [List.foldl_cons, ih]
      by_cases h : isDue day b = true
      · have e : dueNames (b :: r) day = b.name :: dueNames r day := by unfold dueNames; rw [List.filter_cons_of_pos h]; rfl
        rw [if_pos h, e]; rfl
      · have e : dueNames (b :: r) day = dueNames r day := by unfold dueNames; rw [List.filter_cons_of_neg h]
        rw [if_neg h, e]
  exact this l []
/-- What is due of the entries. -/
def dueAgg (day : Int) (a b : Value) : Bool := match a, b with
  | .int _ y, .int _ s => decide (s = 0) && decide (y ≤ day)
  | _, _ => false
def dueEnt (day : Int) (p : ByteArray × Value) : Bool := match p.2 with
  | .agg cs => dueAgg day (cs.getD 1 p.2) (cs.getD 2 p.2)
  | _ => false
def dueE (es : Mp.Ents) (day : Int) : List ByteArray := (es.filter (dueEnt day)).map Prod.fst
theorem dueE_names (l : List Bx) (day : Int) : dueE (bEnts l) day = dueNames l day := by
  rw [dueE, bEnts, List.filter_map, List.map_map, dueNames]
  rfl
theorem dueE_perm {es fs : Mp.Ents} (day : Int) (h : es.Perm fs) : (dueE es day).Perm (dueE fs day) := (h.filter _).map _
theorem dueE_append (es fs : Mp.Ents) (day : Int) : dueE (es ++ fs) day = dueE es day ++ dueE fs day := by simp [dueE]
theorem dueE_len (es : Mp.Ents) (day : Int) : (dueE es day).length ≤ es.length := by
  rw [dueE, List.length_map]; exact List.length_filter_le _ _
theorem Bst.nodup {w : World} {bp bm : Nat} {L : Int} {l : List Bx} (h : Bst w bp bm L l) : (l.map Bx.name).Nodup := by
  obtain ⟨es, hm, hp⟩ := h.map
  have h1 : ((bEnts l).map Prod.fst).Nodup := (hp.map Prod.fst).nodup_iff.1 hm.nodup
  simpa [bEnts, List.map_map, Function.comp_def] using h1
theorem due_sorted {es : Mp.Ents} {l : List Bx} (day : Int) (hp : es.Perm (bEnts l)) (hn : (l.map Bx.name).Nodup) : sortS (dueE es day) = dueR l day := by
  rw [dueR_eq]
  refine putAll_sort _ ((dueE_perm day hp).trans (by rw [dueE_names])) ?_
  have : (dueNames l day).Sublist (l.map Bx.name) := List.filter_sublist.map _
  exact this.nodup hn
/-- A new row of texts comes back; old memory stays. -/
def TextsN (w : World) (l : List ByteArray) (e : Ending) (w' : World) : Prop := ∃ v, e = .returned v ∧ Sl w' 1 v (l.map stRow) ∧ Below w.heap.size w w' ∧ ∀ b, v.ownBlock = some b → w.heap.size ≤ b
set_option maxHeartbeats 8000000 in
theorem dueN_any (l : List Bx) (L : Int) (bp bm : Nat) (day : Int) (w : World) (h : Bst w bp bm L l) (hl : l.length ≤ 4000) :
    Calls Try.prog 22 #[.pointer (some ⟨bp, 0, none⟩), .int .i64 day] w (TextsN w (dueR l day)) := by
  have HNN := Lib.hid h.nodup
  obtain ⟨es, hm, hp⟩ := h.map
  have HM := Lib.hid hm
  have HP := Lib.hid hp
  have HTH := Lib.hid (three_of hp)
  have HLEN : Hid (es.length ≤ 4000) := Lib.hid (by rw [hp.length_eq, bEnts, List.length_map]; exact hl)
  have c2 := cell_blk h.box 2
  have HLM := Lib.hid hm.lt
  obtain ⟨i0, hi, hz, hsz, hby⟩ := info_parts infoStr
  have HI := Lib.hid (And.intro hi (And.intro hz (And.intro hsz hby)))
  clear hi hz hsz hby h hm hp hl
  go_enter Try.func22, Try.ntmps22
  go_wp2_with (first
    | ((with_reducible refine Mp.wpl_range (b := bm) (l := es) ?_ ?_ Try.underlying93 HM.out ?_); rfl; rfl; intro w1 hit ha; have HIT := Lib.hid hit; have HB1 : Hid (Below w.heap.size w w1) := Lib.hid (by obtain ⟨o, rfl⟩ := ha; exact one_below _ _); clear hit ha; go_frame)
    | fail)
  obtain ⟨r, hr⟩ : ∃ r, r = w.heap.size := ⟨_, rfl⟩
  have HR := Lib.hid hr
  rw [← hr] at HIT ⊢
  clear hr
  have HS1 : Hid (w.heap.size + 1 ≤ w1.heap.size) := Lib.hid (by have := HIT.out.lt.1; have := HR.out; omega)
  go_loopw [5, 6, 7] (fun o _ _ wr => ∃ done todo : Mp.Ents, Mp.IterAt wr r bm es todo ∧ (done ++ todo).Perm es ∧ wr.ownsRow w1.heap.size 9 1 o (dueE done day).length (strCells (dueE done day)) ∧ Below w.heap.size w wr ∧ w1.heap.size ≤ wr.heap.size) (fun _ _ _ wr => Mp.itLeft wr r bm)
  case atStart => exact ⟨[], es, HIT.out, List.Perm.refl _, World.ownsRow_nil _ _ _ _, HB1.out, Nat.le_refl _⟩
  case round =>
    obtain ⟨done, todo, hit, hp, hown, hbel, hsz⟩ := hrel
    have HSZ := Lib.hid hsz
    have HIT2 := Lib.hid hit
    have HP2 := Lib.hid hp
    have HOWN := Lib.hid hown
    have HBEL := Lib.hid hbel
    clear hit hp hown hbel
    go_wp2_with (first
      | ((with_reducible refine Mp.wpl_next ?_ ?_ HIT2.out ?_ ?_); rfl; rfl)
      | fail)
    · intro h0
      have HT := Lib.hid h0
      clear h0
      have HSO := Lib.hid (fun W => sort_any (dueE done day) u5 (dueE done day).length w1.heap.size W)
      have HQ : Hid (sortS (dueE done day) = dueR l day) := Lib.hid (by
        refine due_sorted day ?_ HNN.out
        have := HP2.out
        rw [HT.out, List.append_nil] at this
        exact this.trans HP.out)
      have HDL : Hid ((dueE done day).length ≤ 1000000000) := Lib.hid (by
        have h1 := dueE_len done day
        have h2 := HP2.out.length_eq
        have h3 := HLEN.out
        rw [List.length_append] at h2
        omega)
      go_wp2_with (first
        | ((with_reducible refine (HSO.out _ HOWN.out rfl HDL.out).mono ?_); rintro e w3 ⟨rfl, hs3, hg3⟩; have HS3 := Lib.hid hs3; have HG3 := Lib.hid hg3; clear hs3 hg3)
        | fail)
      go_ret
      refine ⟨_, rfl, ?_, ?_, fun b hb => Nat.le_trans HB1.out.size (HS3.out.lt b hb).1⟩
      · have := HS3.out
        rw [HQ.out] at this
        exact own_strs this (by rw [← HQ.out, sortS_len])
      · exact HBEL.out.grown HG3.out HBEL.out.size (fun k hk => Nat.le_trans HB1.out.size (HOWN.out.lt k hk).1)
    · intro key sv wc hmem hitc hgc hsc hen
      have HMEM := Lib.hid hmem
      have HITC := Lib.hid hitc
      obtain ⟨x, y, z, rfl⟩ : ∃ x y z : Int, sv = .agg #[.int .i64 x, .int .i64 y, .int .i64 z] := HTH.out _ (HP2.out.mem_iff.1 (List.mem_append.2 (.inr hmem)))
      have HBC : Hid (Below w.heap.size w wc) := Lib.hid (HBEL.out.grown hgc HBEL.out.size (fun k hk => by have := HR.out; have e' := Option.some.inj hk; omega))
      have HSC : Hid (w1.heap.size ≤ wc.heap.size) := Lib.hid (Nat.le_trans HSZ.out hgc.size)
      have HRW : Hid (r < w1.heap.size) := Lib.hid HIT.out.lt.1
      have HMW : Hid (bm < w1.heap.size) := Lib.hid HIT.out.lt.2
      have HOC : Hid (wc.ownsRow w1.heap.size 9 1 u5 (dueE done day).length (strCells (dueE done day))) := Lib.hid (ownsRow_keep HOWN.out (Keep.of_grown hgc) (ownsRow_off HOWN.out (fun b hb _ e => by have := HRW.out; have e' := Option.some.inj e; omega)))
      have HBX := Lib.hid (one_below wc (.cells #[.int .i64 x, .int .i64 y, .int .i64 z] 91))
      have HOX := Lib.hid (ownsRow_below HOC.out HBX.out)
      have HITX : Hid (Mp.IterAt (wc.alloc (.cells #[.int .i64 x, .int .i64 y, .int .i64 z] 91)) r bm es (Mp.mdel todo key)) := Lib.hid (HITC.out.same (Below.heap_alloc _ _ _ HITC.out.lt.1) (Below.heap_alloc _ _ _ HITC.out.lt.2))
      have HBW : Hid (Below w.heap.size w (wc.alloc (.cells #[.int .i64 x, .int .i64 y, .int .i64 z] 91))) := Lib.hid (HBC.out.trans (HBX.out.mono HBC.out.size))
      have hnt : (Mp.mkeys todo).Nodup := by
        have hnd : (Mp.mkeys (done ++ todo)).Nodup := (HP2.out.map Prod.fst).nodup_iff.2 HM.out.nodup
        rw [Mp.mkeys, List.map_append, List.nodup_append] at hnd
        exact hnd.2.1
      have HPD : Hid ((done ++ [(key, Value.agg #[.int .i64 x, .int .i64 y, .int .i64 z])] ++ Mp.mdel todo key).Perm es) := Lib.hid (by
        refine List.Perm.trans ?_ HP2.out
        rw [List.append_assoc]
        exact (Mp.perm_mdel hnt hmem).symm.append_left done)
      have HL : Hid ((dueE done day).length + 1 ≤ maxLen ∧ ((dueE done day).length + 1) * 16 ≤ 140737488355328 ∧ w1.heap.size ≤ (wc.alloc (.cells #[.int .i64 x, .int .i64 y, .int .i64 z] 91)).heap.size) := Lib.hid (by
        have h1 := dueE_len done day
        have h2 := HP2.out.length_eq
        have h3 := HLEN.out
        have h4 := Nat.le_trans HSC.out HBX.out.size
        rw [List.length_append] at h2
        simp only [maxLen]
        omega)
      have HDS : Hid (dueE (done ++ [(key, Value.agg #[.int .i64 x, .int .i64 y, .int .i64 z])]) day = dueE done day ++ if z = 0 ∧ y ≤ day then [key] else []) := Lib.hid (by
        rw [dueE_append]
        congr 1
        by_cases h1 : z = 0 <;> by_cases h2 : y ≤ day <;> simp [dueE, dueEnt, dueAgg, h1, h2])
      clear hmem hitc hgc hsc hnt
      generalize dueE done day = D at *
      by_cases hz : z = 0
      · have t1 : (z == 0) = true := by simp [hz]
        by_cases hy : y ≤ day
        · have t2 : decide (y ≤ day) = true := decide_eq_true hy
          have HDD := Lib.hid (HDS.out.trans (by rw [if_pos ⟨hz, hy⟩]))
          clear hz hy
          go_wp2_with (first
            | (((with_reducible refine Any.wpl_push ?_ ?_ ?_ Try.underlying51 HI.out.1 HI.out.2.1 HI.out.2.2.1 HI.out.2.2.2 ?_ (by decide) ?_ (str_one _) (HOX.out) HL.out.1 HL.out.2.1 HL.out.2.2 ?_); rfl; rfl; (rw [size_al]; rfl); rfl; rfl; intro v1 w1 hown1 hgrow1 hwho1); have HOWN1 := Lib.hid hown1; have HG1 := Lib.hid hgrow1; clear hown1 hgrow1 hwho1)
            | fail)
          go_roundw
          case rel =>
            refine ⟨done ++ [(key, .agg #[.int .i64 x, .int .i64 y, .int .i64 z])], Mp.mdel todo key, ?_, HPD.out, ?_, HBW.out.grown HG1.out HBW.out.size (fun k hk => Nat.le_trans HB1.out.size (HOX.out.lt k hk).1), Nat.le_trans (Nat.le_trans HSC.out HBX.out.size) HG1.out.size⟩
            · exact HITX.out.same (HG1.out.block r HITX.out.lt.1 (fun e => by have := (HOX.out.lt r e.symm).1; have := HRW.out; omega)) (HG1.out.block bm HITX.out.lt.2 (fun e => by have := (HOX.out.lt bm e.symm).1; have := HMW.out; omega))
            · rw [HDD.out]
              have := HOWN1.out
              simpa [strCells] using this
          case measure =>
            rw [Mp.itLeft_eq (HITX.out.same (HG1.out.block r HITX.out.lt.1 (fun e => by have := (HOX.out.lt r e.symm).1; have := HRW.out; omega)) (HG1.out.block bm HITX.out.lt.2 (fun e => by have := (HOX.out.lt bm e.symm).1; have := HMW.out; omega))), Mp.itLeft_eq HIT2.out]
            exact Mp.mdel_lt HMEM.out
        · have t2 : decide (y ≤ day) = false := decide_eq_false hy
          have HDD := Lib.hid (HDS.out.trans (by rw [if_neg (fun h => hy h.2), List.append_nil]))
          clear hz hy
          go_wp2_with fail
          go_roundw
          case rel => exact ⟨done ++ [(key, .agg #[.int .i64 x, .int .i64 y, .int .i64 z])], Mp.mdel todo key, HITX.out, HPD.out, by rw [HDD.out]; exact HOX.out, HBW.out, Nat.le_trans HSC.out HBX.out.size⟩
          case measure =>
            rw [Mp.itLeft_eq HITX.out, Mp.itLeft_eq HIT2.out]
            exact Mp.mdel_lt HMEM.out
      · have t1 : (z == 0) = false := by simp [hz]
        have HDD := Lib.hid (HDS.out.trans (by rw [if_neg (fun h => hz h.1), List.append_nil]))
        clear hz
        go_wp2_with fail
        go_roundw
        case rel => exact ⟨done ++ [(key, .agg #[.int .i64 x, .int .i64 y, .int .i64 z])], Mp.mdel todo key, HITX.out, HPD.out, by rw [HDD.out]; exact HOX.out, HBW.out, Nat.le_trans HSC.out HBX.out.size⟩
        case measure =>
          rw [Mp.itLeft_eq HITX.out, Mp.itLeft_eq HIT2.out]
          exact Mp.mdel_lt HMEM.out
theorem due_any (l : List Bx) (L : Int) (bp bm : Nat) (day : Int) (w : World) (h : Bst w bp bm L l) (hl : l.length ≤ 4000) :
    Calls Try.prog 22 #[.pointer (some ⟨bp, 0, none⟩), .int .i64 day] w (TextsP w (dueR l day)) :=
  (dueN_any l L bp bm day w h hl).mono fun _ _ ⟨v, h1, h2, h3, _⟩ => ⟨v, h1, h2, h3⟩
end Go.Proofs.Ytehlhfcaajhhaaa.Sc
