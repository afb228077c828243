/- small, lots: of an order; by the program. -/
import Derived.Test.YtbigoifpfkdkjaaGreatDoorFew11
import Derived.Test.YtbigoifpfkdkjaaGreatDoorFresh12
namespace Go.Proofs.YtbigoifpfkdkjaaGreatDoor.Sc
open Go Go.RowKit Go.ChangeShapes Go.WideShapes Go.ChangeAt
set_option maxRecDepth 100000

structure Ln where
  good : ByteArray
  cnt : Int
  price : Int
def Ln.cells (x : Ln) : Array Value := #[.string x.good, .int .i64 x.cnt, .int .i64 x.price]
def Ln.row (x : Ln) : List Value := x.cells.toList
def lnCells (l : List Ln) : List Value := l.flatMap Ln.row
theorem infoLn : (Tryz.prog.info? 167).map (fun i => (i.zero, i.size, i.bytes)) = some (some (.agg #[.string ⟨#[]⟩, .int .i64 0, .int .i64 0]), 3, 32) := by kernel_rfl
theorem ln_one (x : Ln) : ∀ u ∈ x.cells.toList, u.oneCell' = true := by
  intro u hu
  simp only [Ln.cells, List.mem_cons, List.not_mem_nil, or_false] at hu
  rcases hu with rfl | rfl | rfl <;> rfl
theorem lnCells_flat (l : List Ln) : lnCells l = (l.map Ln.row).flatten := by rw [lnCells, List.flatMap_def]
theorem ln_rows (l : List Ln) : ∀ r ∈ l.map Ln.row, r.length = 3 := by
  intro r hr
  obtain ⟨b, -, rfl⟩ := List.mem_map.1 hr
  rfl
theorem lnCells_append (a b : List Ln) : lnCells (a ++ b) = lnCells a ++ lnCells b := by simp [lnCells]
theorem own_lns {w : World} {B n : Nat} {v : Value} {l : List Ln} (h : w.ownsRow B 167 3 v n (lnCells l)) (hn : n = l.length) : Sl w 3 v (l.map Ln.row) := by
  rw [lnCells_flat] at h
  exact own_sl h (by simpa using hn) (ln_rows l)
theorem src_lns {w : World} {v : Value} {l : List Ln} (h : Sl w 3 v (l.map Ln.row)) : Src w 3 v l.length (lnCells l) := by
  have := h.src (ln_rows l) (by decide)
  rw [lnCells_flat]
  simpa using this
/-- What one in a row reads. -/
def LnAt (w : World) (b o : Nat) (x : Ln) : Prop := w.cell? ⟨b, o, none⟩ = some (.string x.good) ∧ w.cell? ⟨b, o + 1, none⟩ = some (.int .i64 x.cnt) ∧ w.cell? ⟨b, o + 2, none⟩ = some (.int .i64 x.price)
theorem ln_at {w : World} {a : Option Addr} {n c : Nat} {l : List Ln} (h : Sl w 3 (.slice a n c) (l.map Ln.row)) {k : Nat} (hk : k < l.length) : ∃ b off, a = some ⟨b, off, none⟩ ∧ b < w.heap.size ∧ LnAt w b (off + k * 3) l[k] := by
  obtain ⟨b, off, e, -, hb, hc⟩ := h.at (i := k) (by simpa using hk)
  have hr := hc k l[k].row (by rw [List.getElem?_map, List.getElem?_eq_getElem hk]; rfl)
  exact ⟨b, off, e, hb, hr 0 _ rfl, hr 1 _ rfl, hr 2 _ rfl⟩
theorem LnAt.below {w w' : World} {b o B : Nat} {x : Ln} (h : LnAt w b o x) (hb : b < B) (hw : Below B w w') : LnAt w' b o x := by
  obtain ⟨h0, h1, h2⟩ := h
  exact ⟨(hw.cell (p := ⟨b, o, none⟩) hb).trans h0, (hw.cell (p := ⟨b, o + 1, none⟩) hb).trans h1, (hw.cell (p := ⟨b, o + 2, none⟩) hb).trans h2⟩
theorem LnAt.keep {F : Nat → Prop} {w w' : World} {b o : Nat} {x : Ln} (h : LnAt w b o x) (hb : b < w.heap.size) (hn : ¬ F b) (hw : Keep F w w') : LnAt w' b o x := by
  obtain ⟨h0, h1, h2⟩ := h
  exact ⟨(hw.cell (o := o) hb hn).trans h0, (hw.cell (o := o + 1) hb hn).trans h1, (hw.cell (o := o + 2) hb hn).trans h2⟩
/-- .. and in a box. -/
theorem ln_box {w : World} {b : Nat} {x : Ln} {T : TypeId} (h : w.heap[b]? = some (.cells x.cells T (0, 0))) : w.cell? ⟨b, 0, none⟩ = some (.string x.good) ∧ w.cell? ⟨b, 1, none⟩ = some (.int .i64 x.cnt) ∧ w.cell? ⟨b, 2, none⟩ = some (.int .i64 x.price) := ⟨cell_blk h 0, cell_blk h 1, cell_blk h 2⟩
def Ln.lot (x : Ln) : Lt := ⟨x.good, x.cnt⟩
set_option maxHeartbeats 8000000 in
theorem small_any (s0 s1 s2 s3 s4 s5 : ByteArray) (tm : Int) (L : List Ln) (v : Value) (w : World) (hs : Sl w 3 v (L.map Ln.row)) :
    Calls Tryz.prog 26 #[.agg #[.string s0, .string s1, .string s2, .string s3, .string s4, .string s5, .int .i64 tm, v]] w (FewP w (L.length ≤ 12)) := by
  have hll : L.length ≤ 9223372036854775807 := by have := hs.len_le; simp only [List.length_map, maxLen] at this; omega
  obtain ⟨a, c, rfl⟩ : ∃ a c, v = .slice a L.length c := by simpa using hs.shape
  have HS := Lib.hid hs
  clear hs
  go_enter Tryz.func26, Tryz.ntmps26
  go_wp2_with fail
  generalize wrap64 (wrap64 (wrap64 (wrap64 (wrap64 (↑s0.size + ↑s1.size) + ↑s2.size) + ↑s3.size) + ↑s4.size) + ↑s5.size) = n0
  have HX := Lib.hid (heap_alloc_new w (.cells #[.string s0, .string s1, .string s2, .string s3, .string s4, .string s5, .int .i64 tm, .slice a L.length c] 80))
  have HB0 := Lib.hid (one_below w (.cells #[.string s0, .string s1, .string s2, .string s3, .string s4, .string s5, .int .i64 tm, .slice a L.length c] 80))
  have HLT : Hid (w.heap.size < (w.alloc (.cells #[.string s0, .string s1, .string s2, .string s3, .string s4, .string s5, .int .i64 tm, .slice a L.length c] 80)).heap.size) := Lib.hid (by simp)
  generalize w.alloc (.cells #[.string s0, .string s1, .string s2, .string s3, .string s4, .string s5, .int .i64 tm, .slice a L.length c] 80) = w0 at *
  go_loopw [3, 32] (fun s i wr => ∃ (k : Nat) (n : Int), k ≤ L.length ∧ i = .int .i64 k ∧ s = .int .i64 n ∧ Below w0.heap.size w0 wr) (fun _ i _ => L.length - (intOf i).toNat)
  case atStart => exact ⟨0, _, Nat.zero_le _, rfl, rfl, Below.refl _ _⟩
  case round =>
    obtain ⟨k, n, hk, rfl, rfl, hbel⟩ := hrel
    have HBEL := Lib.hid hbel
    by_cases hlt : k < L.length
    · obtain ⟨b, off, rfl, hb, h0, h1, h2⟩ := ln_at HS.out hlt
      have d0 := (hbel.cell (p := ⟨b, off + k * 3, none⟩) (Nat.lt_of_lt_of_le hb HB0.out.size)).trans ((HB0.out.cell (p := ⟨b, off + k * 3, none⟩) hb).trans h0)
      have d1 := (hbel.cell (p := ⟨b, off + k * 3 + 1, none⟩) (Nat.lt_of_lt_of_le hb HB0.out.size)).trans ((HB0.out.cell (p := ⟨b, off + k * 3 + 1, none⟩) hb).trans h1)
      have d2 := (hbel.cell (p := ⟨b, off + k * 3 + 2, none⟩) (Nat.lt_of_lt_of_le hb HB0.out.size)).trans ((HB0.out.cell (p := ⟨b, off + k * 3 + 2, none⟩) hb).trans h2)
      have tk : ((k : Nat) : Int) < (L.length : Int) := by omega
      clear h0 h1 h2 hb hbel
      generalize L[k] = y at *
      obtain ⟨yg, yc, yp⟩ := y
      simp only at d0 d1 d2
      go_wp2_with fail
      go_roundw
      case rel => exact ⟨k + 1, _, by omega, by go_num, rfl, HBEL.out.trans ((one_below wr _).mono HBEL.out.size)⟩
      case measure => (simp [intOf]) <;> omega
    · obtain rfl : k = L.length := by omega
      obtain ⟨x0, x1, x2, x3, x4, x5, x6, x7⟩ : wr.cell? ⟨w.heap.size, 0, none⟩ = some (.string s0) ∧ True ∧ True ∧ True ∧ True ∧ True ∧ True ∧ wr.cell? ⟨w.heap.size, 7, none⟩ = some (.slice a L.length c) := by
        have hx := blk hbel HLT.out HX.out
        exact ⟨cell_blk hx 0, trivial, trivial, trivial, trivial, trivial, trivial, cell_blk hx 7⟩
      have HBZ := Lib.hid (HB0.out.trans (hbel.mono HB0.out.size))
      clear hbel x0 x1 x2 x3 x4 x5 x6
      by_cases h1 : n ≤ 500
      · have t1 : decide (n ≤ 500) = true := decide_eq_true h1
        clear h1
        by_cases h2 : L.length ≤ 12
        · have t2 : decide ((L.length : Int) ≤ 12) = true := decide_eq_true (by omega)
          have t3 : decide (L.length ≤ 12) = true := decide_eq_true h2
          have H2 := Lib.hid h2
          clear h2
          go_wp2_with fail
          go_ret
          exact ⟨true, rfl, fun _ => H2.out, HBZ.out⟩
        · have t2 : decide ((L.length : Int) ≤ 12) = false := decide_eq_false (by omega)
          have t3 : decide (L.length ≤ 12) = false := decide_eq_false h2
          clear h2
          go_wp2_with fail
          go_ret
          exact ⟨false, rfl, by simp, HBZ.out⟩
      · have t1 : decide (n ≤ 500) = false := decide_eq_false h1
        clear h1
        go_wp2_with fail
        go_ret
        exact ⟨false, rfl, by simp, HBZ.out⟩
set_option maxHeartbeats 8000000 in
theorem lots_any (s0 s1 s2 s3 s4 s5 : ByteArray) (tm : Int) (L : List Ln) (v : Value) (w : World) (hs : Sl w 3 v (L.map Ln.row)) (hl : L.length ≤ 4000) :
    Calls Tryz.prog 28 #[.agg #[.string s0, .string s1, .string s2, .string s3, .string s4, .string s5, .int .i64 tm, v]] w (RetRow w 107 2 L.length (ltCells (L.map Ln.lot))) := by
  obtain ⟨i0, hi, hz, hsz, hby⟩ := info_parts infoLt
  have HI := Lib.hid (And.intro hi (And.intro hz (And.intro hsz hby)))
  obtain ⟨a, c, rfl⟩ : ∃ a c, v = .slice a L.length c := by simpa using hs.shape
  have HS := Lib.hid hs
  have HLN := Lib.hid hl
  clear hs hi hz hsz hby
  go_enter Tryz.func28, Tryz.ntmps28
  go_wp2_with fail
  have HB0 := Lib.hid (one_below w (.cells #[.string s0, .string s1, .string s2, .string s3, .string s4, .string s5, .int .i64 tm, .slice a L.length c] 80))
  generalize w.alloc (.cells #[.string s0, .string s1, .string s2, .string s3, .string s4, .string s5, .int .i64 tm, .slice a L.length c] 80) = w0 at *
  go_loopw [3, 9] (fun s i wr => ∃ (k : Nat), k ≤ L.length ∧ i = .int .i64 k ∧ wr.ownsRow w0.heap.size 107 2 s k (ltCells ((L.take k).map Ln.lot)) ∧ Below w0.heap.size w0 wr) (fun _ i _ => L.length - (intOf i).toNat)
  case atStart => exact ⟨0, Nat.zero_le _, rfl, World.ownsRow_nil _ _ _ _, Below.refl _ _⟩
  case round =>
    obtain ⟨k, hk, rfl, hown, hbel⟩ := hrel
    have HBEL := Lib.hid hbel
    by_cases hlt : k < L.length
    · obtain ⟨b, off, rfl, hb, h0, h1, h2⟩ := ln_at HS.out hlt
      have d0 := (hbel.cell (p := ⟨b, off + k * 3, none⟩) (Nat.lt_of_lt_of_le hb HB0.out.size)).trans ((HB0.out.cell (p := ⟨b, off + k * 3, none⟩) hb).trans h0)
      have d1 := (hbel.cell (p := ⟨b, off + k * 3 + 1, none⟩) (Nat.lt_of_lt_of_le hb HB0.out.size)).trans ((HB0.out.cell (p := ⟨b, off + k * 3 + 1, none⟩) hb).trans h1)
      have d2 := (hbel.cell (p := ⟨b, off + k * 3 + 2, none⟩) (Nat.lt_of_lt_of_le hb HB0.out.size)).trans ((HB0.out.cell (p := ⟨b, off + k * 3 + 2, none⟩) hb).trans h2)
      have tk : ((k : Nat) : Int) < (L.length : Int) := by omega
      have HQ : Hid (L.take (k + 1) = L.take k ++ [L[k]]) := Lib.hid (List.take_succ_eq_append_getElem hlt)
      clear h0 h1 h2 hb
      generalize L[k] = y at *
      obtain ⟨yg, yc, yp⟩ := y
      simp only at d0 d1 d2
      have HB2 := Lib.hid (hbel.trans ((one_below wr (.cells #[.string yg, .int .i64 yc, .int .i64 yp] 167)).mono hbel.size))
      have HOW2 := Lib.hid (ownsRow_below hown ((one_below wr (.cells #[.string yg, .int .i64 yc, .int .i64 yp] 167))))
      have HL : Hid (k + 1 ≤ maxLen ∧ (k + 1) * 24 ≤ 140737488355328 ∧ w0.heap.size ≤ (wr.alloc (.cells #[.string yg, .int .i64 yc, .int .i64 yp] 167)).heap.size) := Lib.hid (by have := HLN.out; have := HB2.out.size; simp only [maxLen]; omega)
      clear hown hbel
      go_wp2_with (first
        | (((with_reducible refine Any.wpl_push ?_ ?_ ?_ Tryz.underlying88 HI.out.1 HI.out.2.1 HI.out.2.2.1 HI.out.2.2.2 ?_ (by decide) ?_ ((lt_one yg yc)) (HOW2.out) HL.out.1 HL.out.2.1 HL.out.2.2 ?_); rfl; rfl; (rw [size_al]; rfl); rfl; rfl; intro v3 w3 hown3 hgrow3 hwho3); have HO3 := Lib.hid hown3; have HB3 := Lib.hid (HB2.out.grown hgrow3 HB2.out.size (fun k hk => (HOW2.out.lt k hk).1)); clear hown3 hgrow3 hwho3)
        | fail)
      go_roundw
      case rel => exact ⟨k + 1, by omega, by go_num, by rw [HQ.out, List.map_append]; have := HO3.out; simpa [ltCells_append, ltCells, Lt.row, Ln.lot] using this, HB3.out⟩
      case measure => (simp [intOf]) <;> omega
    · obtain rfl : k = L.length := by omega
      have HOW := Lib.hid hown
      clear hown hbel
      go_wp2_with fail
      go_ret
      have := HOW.out
      rw [List.take_length] at this
      exact retRow this HB0.out.size (HB0.out.trans (HBEL.out.mono HB0.out.size))
end Go.Proofs.YtbigoifpfkdkjaaGreatDoor.Sc
