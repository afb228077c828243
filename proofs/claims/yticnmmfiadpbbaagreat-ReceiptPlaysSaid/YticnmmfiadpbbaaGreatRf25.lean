/- The document's rows of receipts: what is found, put and taken away; rows of lots that are one. -/
import Derived.Test.YticnmmfiadpbbaaGreatNm25
import Derived.Test.YticnmmfiadpbbaaGreatAnyLast
import Derived.Laws.StructEq
import Derived.Laws.ResultCell
import Derived.BigQuiet
namespace Go.Proofs.YticnmmfiadpbbaaGreat.Sc
open Go Go.RowKit Go.ChangeShapes Go.WideShapes Go.ChangeAt
set_option maxRecDepth 100000

instance decLt : DecidableEq Lt := fun x y => decidable_of_iff (x.good = y.good ∧ x.cnt = y.cnt) (by cases x; cases y; simp)
def Lt.cells (x : Lt) : Array Value := #[.string x.good, .int .i64 x.cnt]
def LtEq (x y : Lt) : Bool := x.good.toList == y.good.toList && x.cnt == y.cnt
theorem ltEq_iff (x y : Lt) : LtEq x y = decide (x = y) := by
  obtain ⟨a, b⟩ := x
  obtain ⟨a', b'⟩ := y
  simp only [LtEq, str_beq, Lt.mk.injEq]
  rw [Bool.eq_iff_iff]
  simp
theorem ltEq_yes {x y : Lt} (h : x = y) : LtEq x y = true := by rw [ltEq_iff, decide_eq_true h]
theorem ltEq_no {x y : Lt} (h : ¬ x = y) : LtEq x y = false := by rw [ltEq_iff, decide_eq_false h]
theorem sameL_eq (a b : List Lt) : sameL a b = decide (a = b) := by rw [Bool.eq_iff_iff, sameL_iff, decide_eq_true_eq]
theorem ltHeld : Tryz.prog.stoodInHeld 47 = false := by kernel_rfl
theorem ltGuard : Tryz.prog.eqGuardType Tryz.prog.depth 47 = false := by kernel_rfl
theorem ltStruct : Tryz.prog.underlying 47 = some (.struct (Tryz.prog.fieldsOf 47)) := by kernel_rfl
theorem run_neq_lt (w : World) (x y : Lt) : (binOp .neq 47 (.agg x.cells) (.agg y.cells)).run Tryz.prog w = .ok (.bool (!LtEq x y)) w := by
  rw [run_neq_struct, run_equalIn_agg w 9999 _ _ _ ltStruct ltHeld]
  unfold Lt.cells
  go_simp
  unfold LtEq
  by_cases h0 : x.good.toList = y.good.toList <;> by_cases h1 : x.cnt = y.cnt <;> simp [h0, h1]
set_option maxRecDepth 5000 in
set_option maxHeartbeats 1000000 in
theorem refSameL_any (l m : List Lt) (v u : Value) (w : World) (hs : Sl w 2 v (l.map Lt.row)) (hu : Sl w 2 u (m.map Lt.row)) :
    Calls Tryz.prog 23 #[v, u] w (RetB w (decide (l = m))) := by
  have hml : l.length ≤ 9223372036854775807 := by have := hs.len_le; simp only [List.length_map, maxLen] at this; omega
  have hmm : m.length ≤ 9223372036854775807 := by have := hu.len_le; simp only [List.length_map, maxLen] at this; omega
  obtain ⟨a, c, rfl⟩ : ∃ a c, v = .slice a l.length c := by simpa using hs.shape
  obtain ⟨a', c', rfl⟩ : ∃ a c, u = .slice a m.length c := by simpa using hu.shape
  have HSL := Lib.hid hs
  have HSM := Lib.hid hu
  clear hs hu
  by_cases hlm : l.length = m.length
  · have t0 : ((l.length : Int) != (m.length : Int)) = false := by simp [hlm]
    have HLM := Lib.hid hlm
    clear hlm
    go_enter Tryz.func23, Tryz.ntmps23
    go_wp2_with fail
    clear t0
    go_loopw [5] (fun i wr => ∃ k : Nat, k ≤ l.length ∧ i = .int .i64 k ∧ decide (l = m) = decide (l.drop k = m.drop k) ∧ Below w.heap.size w wr) (fun i _ => l.length - (intOf i).toNat)
    case atStart => exact ⟨0, Nat.zero_le _, rfl, rfl, Below.refl _ _⟩
    case round =>
      obtain ⟨k, hk, rfl, hrel, hbel⟩ := hrel
      by_cases hlt : k < l.length
      · have hlt' : k < m.length := by have := HLM.out; omega
        obtain ⟨b, off, rfl, -, hb, hc⟩ := HSL.out.at (i := k) (by simpa using hlt)
        obtain ⟨b', off', rfl, -, hb', hc'⟩ := HSM.out.at (i := k) (by simpa using hlt')
        have d0 := (hbel.cell (p := ⟨b, off + k * 2, none⟩) hb).trans (hc k (Lt.row l[k]) (by simp [hlt]) 0 _ rfl)
        have e0 := (hbel.cell (p := ⟨b', off' + k * 2, none⟩) hb').trans (hc' k (Lt.row m[k]) (by simp [hlt']) 0 _ rfl)
        have d1 := (hbel.cell (p := ⟨b, off + k * 2 + 1, none⟩) hb).trans (hc k (Lt.row l[k]) (by simp [hlt]) 1 _ rfl)
        have e1 := (hbel.cell (p := ⟨b', off' + k * 2 + 1, none⟩) hb').trans (hc' k (Lt.row m[k]) (by simp [hlt']) 1 _ rfl)
        rw [List.drop_eq_getElem_cons hlt, List.drop_eq_getElem_cons hlt'] at hrel
        have HR := Lib.hid hrel
        clear hrel hc hc'
        generalize l[k] = x at *
        generalize m[k] = y at *
        by_cases heq : x = y
        · have HEQ := Lib.hid heq
          have t1 : LtEq x y = true := ltEq_yes heq
          have t2 := fun w => run_neq_lt w x y
          unfold Lt.cells at t2
          have t3 := ltGuard
          clear heq
          go_wp2_with fail
          go_quiet (fail)
          go_wp2_with fail
          go_roundw
          case rel => exact ⟨k + 1, by omega, by go_num, by rw [HR.out, HEQ.out]; simp, below_drewN hbel _⟩
          case measure => simp [intOf]; omega
        · have HEQ := Lib.hid heq
          have t1 : LtEq x y = false := ltEq_no heq
          have t2 := fun w => run_neq_lt w x y
          unfold Lt.cells at t2
          have t3 := ltGuard
          clear heq
          go_wp2_with fail
          go_quiet (fail)
          go_wp2_with fail
          go_ret
          exact retB (by rw [HR.out]; simp [HEQ.out]) (below_drewN hbel _)
      · have HR := Lib.hid hrel
        clear hrel
        go_wp2_with fail
        go_ret
        exact retB (by rw [HR.out, List.drop_eq_nil_of_le (by omega), List.drop_eq_nil_of_le (by have := HLM.out; omega)]; rfl) hbel
  · have t0 : ((l.length : Int) != (m.length : Int)) = true := by simp; omega
    have HLM := Lib.hid hlm
    clear hlm
    go_enter Tryz.func23, Tryz.ntmps23
    go_wp2_with fail
    go_ret
    exact retB (by symm; exact decide_eq_false fun h => HLM.out (by rw [h])) (Below.refl _ _)


/-- A receipt, and the slice that holds its lots. -/
structure Rv where
  rc : Rc
  lv : Value
def Rv.cells (x : Rv) : Array Value := #[.string x.rc.num, .string x.rc.house, .string x.rc.hold, x.lv, .int .i64 x.rc.day]
def Rv.row (x : Rv) : List Value := x.cells.toList
def rvCells (M : List Rv) : List Value := M.flatMap Rv.row
def rcsOf (M : List Rv) : List Rc := M.map Rv.rc
/-- Each one's lots lie there. -/
def RvOk (w : World) (x : Rv) : Prop := Sl w 2 x.lv (x.rc.lots.map Lt.row)
def rputV : List Rv → Rv → List Rv
  | [], x => [x]
  | a :: r, x => if strLtB x.rc.num a.rc.num = true then x :: a :: r else a :: rputV r x
def rdelV (M : List Rv) (n : ByteArray) : List Rv := M.filter fun r => !decide (r.rc.num = n)
theorem rputV_of (M : List Rv) (x : Rv) : rcsOf (rputV M x) = rput (rcsOf M) x.rc := by
  induction M with
  | nil => rfl
  | cons a r ih =>
    show rcsOf (if _ then _ else _) = (if strLtB x.rc.num a.rc.num = true then _ else _)
    split
    · rfl
    · show a.rc :: rcsOf (rputV r x) = _
      rw [ih]; rfl
theorem rdelV_of (M : List Rv) (n : ByteArray) : rcsOf (rdelV M n) = rdel (rcsOf M) n := by
  unfold rcsOf rdelV rdel
  rw [List.filter_map]
  rfl
theorem mem_rputV {x r : Rv} : ∀ {l : List Rv}, r ∈ rputV l x → r = x ∨ r ∈ l
  | [], h => .inl (by simpa [rputV] using h)
  | a :: l, h => by
    rw [rputV] at h
    split at h
    · exact List.mem_cons.1 h
    · rcases List.mem_cons.1 h with h | h
      · exact .inr (by rw [h]; exact List.mem_cons_self)
      · exact (mem_rputV h).imp id (List.mem_cons_of_mem _)
theorem rv_flat (M : List Rv) : rvCells M = (M.map Rv.row).flatten := by rw [rvCells, List.flatMap_def]
theorem rv_rows (M : List Rv) : ∀ r ∈ M.map Rv.row, r.length = 5 := by
  intro r hr
  obtain ⟨b, -, rfl⟩ := List.mem_map.1 hr
  rfl
theorem own_rvs {w : World} {B n : Nat} {v : Value} {M : List Rv} (h : w.ownsRow B 34 5 v n (rvCells M)) (hn : n = M.length) : Sl w 5 v (M.map Rv.row) := by
  rw [rv_flat] at h
  exact own_sl h (by rw [List.length_map]; exact hn) (rv_rows M)
theorem infoRv : (Tryz.prog.info? 34).map (fun i => (i.zero, i.size, i.bytes)) = some (some (.agg #[.string ⟨#[]⟩, .string ⟨#[]⟩, .string ⟨#[]⟩, .slice none 0 0, .int .i64 0]), 5, 80) := by kernel_rfl
theorem rv_one {w : World} {x : Rv} (h : RvOk w x) : ∀ u ∈ x.cells.toList, u.oneCell' = true := by
  obtain ⟨a, c, e⟩ := Sl.shape h
  intro u hu
  simp only [Rv.cells, List.mem_cons, List.not_mem_nil, or_false] at hu
  rcases hu with rfl | rfl | rfl | rfl | rfl <;> first | rfl | (rw [e]; rfl)
theorem rv_one' {w : World} {x : Rv} (h : RvOk w x) : ∀ u ∈ (#[.string x.rc.num, .string x.rc.house, .string x.rc.hold, x.lv, .int .i64 x.rc.day] : Array Value).toList, u.oneCell' = true := rv_one h
/-- Five cells of a row. -/
def Cells5 (w : World) (b o : Nat) (x : Rv) : Prop :=
  w.cell? ⟨b, o, none⟩ = some (.string x.rc.num) ∧ w.cell? ⟨b, o + 1, none⟩ = some (.string x.rc.house) ∧ w.cell? ⟨b, o + 2, none⟩ = some (.string x.rc.hold) ∧ w.cell? ⟨b, o + 3, none⟩ = some x.lv ∧ w.cell? ⟨b, o + 4, none⟩ = some (.int .i64 x.rc.day)
theorem Cells5.below {B : Nat} {w w' : World} {b o : Nat} {x : Rv} (h : Cells5 w b o x) (hb : Below B w w') (hB : b < B) : Cells5 w' b o x :=
  ⟨(hb.cell (p := ⟨b, _, none⟩) hB).trans h.1, (hb.cell (p := ⟨b, _, none⟩) hB).trans h.2.1, (hb.cell (p := ⟨b, _, none⟩) hB).trans h.2.2.1, (hb.cell (p := ⟨b, _, none⟩) hB).trans h.2.2.2.1, (hb.cell (p := ⟨b, _, none⟩) hB).trans h.2.2.2.2⟩
theorem cells5_blk {w : World} {b : Nat} {x : Rv} {T : TypeId} {fr : Nat × Nat} (h : w.heap[b]? = some (.cells x.cells T fr)) : w.cell? ⟨b, 0, none⟩ = some (.string x.rc.num) ∧ w.cell? ⟨b, 1, none⟩ = some (.string x.rc.house) ∧ w.cell? ⟨b, 2, none⟩ = some (.string x.rc.hold) ∧ w.cell? ⟨b, 3, none⟩ = some x.lv ∧ w.cell? ⟨b, 4, none⟩ = some (.int .i64 x.rc.day) :=
  ⟨cell_blk h 0, cell_blk h 1, cell_blk h 2, cell_blk h 3, cell_blk h 4⟩
/-- A row of receipts, cell by cell. -/
theorem sl_rv {w : World} {a : Option Addr} {n c : Nat} {M : List Rv} (h : Sl w 5 (.slice a n c) (M.map Rv.row)) {i : Nat} (hi : i < M.length) :
    ∃ b off, a = some ⟨b, off, none⟩ ∧ b < w.heap.size ∧ Cells5 w b (off + i * 5) M[i] := by
  obtain ⟨b, off, rfl, -, hb, hc⟩ := h.at (i := i) (by simpa using hi)
  have h0 : (M.map Rv.row)[i]? = some (M[i].row) := by simp [hi]
  exact ⟨b, off, rfl, hb, hc i _ h0 0 _ rfl, hc i _ h0 1 _ rfl, hc i _ h0 2 _ rfl, hc i _ h0 3 _ rfl, hc i _ h0 4 _ rfl⟩
def FindP (w : World) (M : List Rv) (n : ByteArray) (e : Ending) (w' : World) : Prop :=
  Below w.heap.size w w' ∧ ((rfind (rcsOf M) n = none ∧ e = .returned (.int .i64 (-1))) ∨ ∃ k, ∃ h : k < M.length, rfind (rcsOf M) n = some M[k].rc ∧ e = .returned (.int .i64 k))
theorem rfind_drop {M : List Rv} {n : ByteArray} {k : Nat} (h : k < M.length) : rfind (rcsOf (M.drop k)) n = if M[k].rc.num = n then some M[k].rc else rfind (rcsOf (M.drop (k + 1))) n := by
  rw [List.drop_eq_getElem_cons h]; rfl
set_option maxHeartbeats 4000000 in
theorem refFind_any (M : List Rv) (name : ByteArray) (n : ByteArray) (v u : Value) (w : World) (hs : Sl w 5 v (M.map Rv.row)) :
    Calls Tryz.prog 22 #[.agg #[.string name, v, u], .string n] w (FindP w M n) := by
  have hll : M.length ≤ 9223372036854775807 := by have := hs.len_le; simp only [List.length_map, maxLen] at this; omega
  obtain ⟨a, c, rfl⟩ : ∃ a c, v = .slice a M.length c := by simpa using hs.shape
  have HS := Lib.hid hs
  have HB0 := Lib.hid (one_below w (.cells #[.string name, .slice a M.length c, u] 29))
  have c1 := cell_new w #[.string name, .slice a M.length c, u] 29 1
  obtain ⟨F, hF⟩ : ∃ F, F = rfind (rcsOf M) n := ⟨_, rfl⟩
  have HF := Lib.hid hF
  clear hF hs
  go_enter Tryz.func22, Tryz.ntmps22
  go_wp2_with fail
  obtain ⟨bx, hbx⟩ : ∃ b, b = w.heap.size := ⟨_, rfl⟩
  have HX0 := Lib.hid (heap_alloc_new w (.cells #[.string name, .slice a M.length c, u] 29))
  rw [← hbx] at HX0 c1 ⊢
  have HBX := Lib.hid hbx
  generalize hW : w.alloc (.cells #[.string name, .slice a M.length c, u] 29) = W0 at *
  have HSZ : Hid (W0.heap.size = w.heap.size + 1) := Lib.hid (by rw [← hW]; simp)
  clear hW c1 hbx
  go_loopw [5] (fun i wr => ∃ k : Nat, k ≤ M.length ∧ i = .int .i64 k ∧ F = rfind (rcsOf (M.drop k)) n ∧ Below W0.heap.size W0 wr) (fun i _ => M.length - (intOf i).toNat)
  case atStart => exact ⟨0, Nat.zero_le _, rfl, by rw [HF.out]; rfl, Below.refl _ _⟩
  case round =>
    obtain ⟨k, hk, rfl, hrel, hbel⟩ := hrel
    have HBEL := Lib.hid hbel
    have HX := Lib.hid (blk hbel (by have := HBX.out; have := HSZ.out; omega) HX0.out)
    have c1 := cell_blk HX.out 1
    simp only [List.getElem?_toArray, List.getElem?_cons_succ, List.getElem?_cons_zero] at c1
    have HBW : Hid (Below w.heap.size w wr) := Lib.hid (HB0.out.trans (hbel.mono HB0.out.size))
    by_cases hlt : k < M.length
    · obtain ⟨b, off, rfl, hb, hc⟩ := sl_rv HS.out hlt
      obtain ⟨d0, -⟩ := hc.below HBW.out hb
      rw [rfind_drop hlt] at hrel
      have HM : Hid (rfind (rcsOf M) n = F) := Lib.hid HF.out.symm
      have HREL := Lib.hid hrel
      clear hc hbel hrel
      by_cases hx : M[k].rc.num = n
      · have t1 := str_yes hx
        have HQ : Hid (F = some M[k].rc) := Lib.hid (by rw [HREL.out, if_pos hx])
        have HLT := Lib.hid hlt
        clear hx HREL
        generalize M[k].rc.num = xn at d0 t1
        go_wp2_with fail
        go_ret
        exact ⟨HBW.out, .inr ⟨k, HLT.out, by rw [HM.out, HQ.out], rfl⟩⟩
      · have t1 := str_no hx
        have HQ : Hid (F = rfind (rcsOf (M.drop (k + 1))) n) := Lib.hid (by rw [HREL.out, if_neg hx])
        clear hx HREL
        generalize M[k].rc.num = xn at d0 t1
        go_wp2_with fail
        go_roundw
        case rel => exact ⟨k + 1, by omega, by go_num, HQ.out, HBEL.out⟩
        case measure => (simp [intOf]) <;> omega
    · have HQ : Hid (F = none) := Lib.hid (by rw [hrel, List.drop_of_length_le (by omega)]; rfl)
      clear hrel hbel
      go_wp2_with fail
      go_ret
      exact ⟨HBW.out, .inl ⟨by rw [← HF.out, HQ.out], rfl⟩⟩
end Go.Proofs.YticnmmfiadpbbaaGreat.Sc
