/- Chains of endorsements to order. -/
import Derived.Test.YtbigoifpfkdkjaaGreatDoorTe01
import Derived.Test.YtbigoifpfkdkjaaGreatDoorTe05
import Derived.Deep.CutRange
import Derived.OwnWalk
import Derived.WalkMore
import Derived.BigQuiet
namespace Go.Proofs.YtbigoifpfkdkjaaGreatDoor.Sc
open Go Go.RowKit Go.ChangeShapes Go.WideShapes Go.ChangeAt
set_option maxRecDepth 100000

structure Ed where
  frm : ByteArray
  dst : ByteArray
  kind : Int
  day : Int
def Ed.cells (x : Ed) : Array Value := #[.string x.frm, .string x.dst, .int .i64 x.kind, .int .i64 x.day]
def Ed.row (x : Ed) : List Value := x.cells.toList
def edCells (l : List Ed) : List Value := l.flatMap Ed.row
theorem infoEd : (Tryz.prog.info? 75).map (fun i => (i.zero, i.size, i.bytes)) = some (some (.agg #[.string ⟨#[]⟩, .string ⟨#[]⟩, .int .i64 0, .int .i64 0]), 4, 48) := by kernel_rfl
theorem ed_one (x : Ed) : ∀ u ∈ x.cells.toList, u.oneCell' = true := by
  intro u hu
  simp only [Ed.cells, List.mem_cons, List.not_mem_nil, or_false] at hu
  rcases hu with rfl | rfl | rfl | rfl <;> rfl
theorem edCells_flat (l : List Ed) : edCells l = (l.map Ed.row).flatten := by rw [edCells, List.flatMap_def]
theorem ed_rows (l : List Ed) : ∀ r ∈ l.map Ed.row, r.length = 4 := by
  intro r hr
  obtain ⟨b, -, rfl⟩ := List.mem_map.1 hr
  rfl
theorem edCells_append (a b : List Ed) : edCells (a ++ b) = edCells a ++ edCells b := by simp [edCells]
theorem own_eds {w : World} {B n : Nat} {v : Value} {l : List Ed} (h : w.ownsRow B 75 4 v n (edCells l)) (hn : n = l.length) : Sl w 4 v (l.map Ed.row) := by
  rw [edCells_flat] at h
  exact own_sl h (by simpa using hn) (ed_rows l)
theorem src_eds {w : World} {v : Value} {l : List Ed} (h : Sl w 4 v (l.map Ed.row)) : Src w 4 v l.length (edCells l) := by
  have := h.src (ed_rows l) (by decide)
  rw [edCells_flat]
  simpa using this
/-- What one in a row reads. -/
def EdAt (w : World) (b o : Nat) (x : Ed) : Prop := w.cell? ⟨b, o, none⟩ = some (.string x.frm) ∧ w.cell? ⟨b, o + 1, none⟩ = some (.string x.dst) ∧ w.cell? ⟨b, o + 2, none⟩ = some (.int .i64 x.kind) ∧ w.cell? ⟨b, o + 3, none⟩ = some (.int .i64 x.day)
theorem ed_at {w : World} {a : Option Addr} {n c : Nat} {l : List Ed} (h : Sl w 4 (.slice a n c) (l.map Ed.row)) {k : Nat} (hk : k < l.length) : ∃ b off, a = some ⟨b, off, none⟩ ∧ b < w.heap.size ∧ EdAt w b (off + k * 4) l[k] := by
  obtain ⟨b, off, e, -, hb, hc⟩ := h.at (i := k) (by simpa using hk)
  have hr := hc k l[k].row (by rw [List.getElem?_map, List.getElem?_eq_getElem hk]; rfl)
  exact ⟨b, off, e, hb, hr 0 _ rfl, hr 1 _ rfl, hr 2 _ rfl, hr 3 _ rfl⟩
theorem EdAt.below {w w' : World} {b o B : Nat} {x : Ed} (h : EdAt w b o x) (hb : b < B) (hw : Below B w w') : EdAt w' b o x := by
  obtain ⟨h0, h1, h2, h3⟩ := h
  exact ⟨(hw.cell (p := ⟨b, o, none⟩) hb).trans h0, (hw.cell (p := ⟨b, o + 1, none⟩) hb).trans h1, (hw.cell (p := ⟨b, o + 2, none⟩) hb).trans h2, (hw.cell (p := ⟨b, o + 3, none⟩) hb).trans h3⟩
theorem EdAt.keep {F : Nat → Prop} {w w' : World} {b o : Nat} {x : Ed} (h : EdAt w b o x) (hb : b < w.heap.size) (hn : ¬ F b) (hw : Keep F w w') : EdAt w' b o x := by
  obtain ⟨h0, h1, h2, h3⟩ := h
  exact ⟨(hw.cell (o := o) hb hn).trans h0, (hw.cell (o := o + 1) hb hn).trans h1, (hw.cell (o := o + 2) hb hn).trans h2, (hw.cell (o := o + 3) hb hn).trans h3⟩
/-- .. and in a box. -/
theorem ed_box {w : World} {b : Nat} {x : Ed} {T : TypeId} (h : w.heap[b]? = some (.cells x.cells T (0, 0))) : w.cell? ⟨b, 0, none⟩ = some (.string x.frm) ∧ w.cell? ⟨b, 1, none⟩ = some (.string x.dst) ∧ w.cell? ⟨b, 2, none⟩ = some (.int .i64 x.kind) ∧ w.cell? ⟨b, 3, none⟩ = some (.int .i64 x.day) := ⟨cell_blk h 0, cell_blk h 1, cell_blk h 2, cell_blk h 3⟩
/-- As an endorsement to order must be. -/
def mayE (e : Ed) : Bool := nameOk e.frm && (decide (0 ≤ e.day) && (decide (e.day ≤ 1048576) && (nameOk e.dst && !(e.dst.toList == e.frm.toList))))
set_option maxHeartbeats 2000000 in
theorem mayE_yes (e : Ed) (h0 : e.kind = 0) (h : mayE e = true) (w : World) : Calls Tryz.prog 139 #[.agg e.cells] w (RetB w true) := by
  obtain ⟨f, t, k, d⟩ := e
  simp only at h0
  subst h0
  simp only [mayE, Bool.and_eq_true, decide_eq_true_eq, Bool.not_eq_true'] at h
  obtain ⟨h1, h2, h3, h4, h5⟩ := h
  have HF := Lib.hid (fun W => markName_any f W)
  have HT := Lib.hid (fun W => markName_any t W)
  rw [h1] at HF
  rw [h4] at HT
  have t1 : decide (d < 0) = false := decide_eq_false (by omega)
  have t2 : decide (1048576 < d) = false := decide_eq_false (by omega)
  have HX := Lib.hid (heap_alloc_new w (.cells #[.string f, .string t, .int .i64 0, .int .i64 d] 75))
  have HB := Lib.hid (one_below w (.cells #[.string f, .string t, .int .i64 0, .int .i64 d] 75))
  simp only [Ed.cells]
  clear h1 h2 h3 h4
  go_enter Tryz.func139, Tryz.ntmps139
  go_wp2_with (first
    | ((with_reducible refine (HF.out _).mono ?_); rintro e w1 ⟨rfl, hb1⟩; have HB1 := Lib.hid (HB.out.trans (hb1.mono HB.out.size)); have HX1 := Lib.hid (blk hb1 (lt_blk HX.out) HX.out); clear hb1; have c0 := cell_blk HX1.out 0; have c1 := cell_blk HX1.out 1; have c2 := cell_blk HX1.out 2; have c3 := cell_blk HX1.out 3)
    | ((with_reducible refine (HT.out _).mono ?_); rintro e w2 ⟨rfl, hb2⟩; have HB2 := Lib.hid (HB1.out.trans (hb2.mono HB1.out.size)); have HX2 := Lib.hid (blk hb2 (lt_blk HX1.out) HX1.out); clear hb2 c0 c1 c2 c3; have c0 := cell_blk HX2.out 0; have c1 := cell_blk HX2.out 1)
    | fail)
  go_ret
  exact retB rfl HB2.out
theorem kind_last {l : List Ed} (h : ∀ e ∈ l, e.kind = 0) {k : Nat} (hk : k < l.length) : l[k].kind = 0 := h _ (List.getElem_mem hk)
set_option maxHeartbeats 2000000 in
theorem closed_no (l : List Ed) (v : Value) (w : World) (hs : Sl w 4 v (l.map Ed.row)) (h0 : ∀ e ∈ l, e.kind = 0) : Calls Tryz.prog 78 #[v] w (RetB w false) := by
  obtain ⟨a, c, rfl⟩ : ∃ a c, v = .slice a l.length c := by simpa using hs.shape
  have hll : l.length ≤ 9223372036854775807 := by have := hs.len_le; simp only [List.length_map, maxLen] at this; omega
  by_cases hn : l.length = 0
  · have t1 : decide ((0 : Int) < (l.length : Int)) = false := decide_eq_false (by omega)
    have t2 : decide (0 < l.length) = false := decide_eq_false (by omega)
    clear hs hn
    go_enter Tryz.func78, Tryz.ntmps78
    go_wp2_with fail
    go_ret
    exact retB rfl (Below.refl _ _)
  · obtain ⟨j, hj⟩ : ∃ j, l.length = j + 1 := ⟨l.length - 1, by omega⟩
    have t1 : decide ((0 : Int) < (l.length : Int)) = true := decide_eq_true (by omega)
    have t2 : decide (0 < l.length) = true := decide_eq_true (by omega)
    have hlt : j < l.length := by omega
    obtain ⟨b, off, rfl, hb, d0, d1, d2, d3⟩ := ed_at hs hlt
    rw [kind_last h0 hlt] at d2
    have f1 : IntKind.i64.wrap ((l.length : Int) - 1) = (j : Int) := by rw [IntWalk.i64_in _ (by omega)]; omega
    have tj : (j : Int) < (l.length : Int) := by omega
    have f2 : ((l.length : Int) - 1) = (j : Int) := by omega
    clear hs hn hj h0 d0 d1 d3 hlt hb
    go_enter Tryz.func78, Tryz.ntmps78
    go_wp2_with fail
    go_ret
    exact retB rfl (Below.refl _ _)
set_option maxHeartbeats 2000000 in
theorem blank_no (l : List Ed) (v : Value) (w : World) (hs : Sl w 4 v (l.map Ed.row)) (h0 : ∀ e ∈ l, e.kind = 0) : Calls Tryz.prog 79 #[v] w (RetB w false) := by
  obtain ⟨a, c, rfl⟩ : ∃ a c, v = .slice a l.length c := by simpa using hs.shape
  have hll : l.length ≤ 9223372036854775807 := by have := hs.len_le; simp only [List.length_map, maxLen] at this; omega
  by_cases hn : l.length = 0
  · have t1 : decide ((0 : Int) < (l.length : Int)) = false := decide_eq_false (by omega)
    have t2 : decide (0 < l.length) = false := decide_eq_false (by omega)
    clear hs hn
    go_enter Tryz.func79, Tryz.ntmps79
    go_wp2_with fail
    go_ret
    exact retB rfl (Below.refl _ _)
  · obtain ⟨j, hj⟩ : ∃ j, l.length = j + 1 := ⟨l.length - 1, by omega⟩
    have t1 : decide ((0 : Int) < (l.length : Int)) = true := decide_eq_true (by omega)
    have t2 : decide (0 < l.length) = true := decide_eq_true (by omega)
    have hlt : j < l.length := by omega
    obtain ⟨b, off, rfl, hb, d0, d1, d2, d3⟩ := ed_at hs hlt
    rw [kind_last h0 hlt] at d2
    have f1 : IntKind.i64.wrap ((l.length : Int) - 1) = (j : Int) := by rw [IntWalk.i64_in _ (by omega)]; omega
    have tj : (j : Int) < (l.length : Int) := by omega
    have f2 : ((l.length : Int) - 1) = (j : Int) := by omega
    clear hs hn hj h0 d0 d1 d3 hlt hb
    go_enter Tryz.func79, Tryz.ntmps79
    go_wp2_with fail
    go_ret
    exact retB rfl (Below.refl _ _)
set_option maxHeartbeats 2000000 in
theorem wrong_hold (h : ByteArray) (l : List Ed) (e : Ed) (v : Value) (w : World) (hs : Sl w 4 v (l.map Ed.row)) (h0 : ∀ e ∈ l, e.kind = 0) (hk0 : e.kind = 0) (hme : mayE e = true) (hfr : e.frm ≠ h) :
    Calls Tryz.prog 77 #[.string h, v, .agg e.cells] w (Ret w (.int .i64 8)) := by
  have HM := Lib.hid (fun W => mayE_yes e hk0 hme W)
  have HC := Lib.hid (fun W (hW : Below w.heap.size w W) => closed_no l v W (hs.below hW (Nat.le_refl _)) h0)
  have HK := Lib.hid (fun W (hW : Below w.heap.size w W) => blank_no l v W (hs.below hW (Nat.le_refl _)) h0)
  obtain ⟨a, c, rfl⟩ : ∃ a c, v = .slice a l.length c := by simpa using hs.shape
  have hll : l.length ≤ 9223372036854775807 := by have := hs.len_le; simp only [List.length_map, maxLen] at this; omega
  have HS := Lib.hid hs
  obtain ⟨f, t, k, d⟩ := e
  simp only at hk0 hfr
  subst hk0
  simp only [Ed.cells] at HM
  have HX := Lib.hid (heap_alloc_new w (.cells #[.string f, .string t, .int .i64 0, .int .i64 d] 75))
  have HB := Lib.hid (one_below w (.cells #[.string f, .string t, .int .i64 0, .int .i64 d] 75))
  have t1 : (f.toList == h.toList) = false := by rw [str_beq]; exact decide_eq_false hfr
  simp only [Ed.cells]
  clear hs hme hfr
  go_enter Tryz.func77, Tryz.ntmps77
  go_wp2_with (first
      | ((with_reducible refine (HM.out _).mono ?_); rintro en w1 ⟨rfl, hb1⟩; have HB1 := Lib.hid (HB.out.trans (hb1.mono HB.out.size)); have HX1 := Lib.hid (blk hb1 (lt_blk HX.out) HX.out); clear hb1)
      | ((with_reducible refine (HC.out _ HB1.out).mono ?_); rintro en w2 ⟨rfl, hb2⟩; have HB2 := Lib.hid (HB1.out.trans (hb2.mono HB1.out.size)); have HX2 := Lib.hid (blk hb2 (lt_blk HX1.out) HX1.out); clear hb2)
      | ((with_reducible refine (HK.out _ HB2.out).mono ?_); rintro en w3 ⟨rfl, hb3⟩; have HB3 := Lib.hid (HB2.out.trans (hb3.mono HB2.out.size)); have HX3 := Lib.hid (blk hb3 (lt_blk HX2.out) HX2.out); clear hb3; have c0 := cell_blk HX3.out 0; have c3 := cell_blk HX3.out 3)
      | fail)
  go_ret
  exact ⟨rfl, HB3.out⟩
set_option maxHeartbeats 2000000 in
theorem wrong_ok (h : ByteArray) (l : List Ed) (e : Ed) (v : Value) (w : World) (hs : Sl w 4 v (l.map Ed.row)) (h0 : ∀ e ∈ l, e.kind = 0) (hk0 : e.kind = 0) (hme : mayE e = true) (hfr : e.frm = h) (hd : ∀ x, l.getLast? = some x → x.day ≤ e.day) :
    Calls Tryz.prog 77 #[.string h, v, .agg e.cells] w (Ret w (.int .i64 0)) := by
  have HM := Lib.hid (fun W => mayE_yes e hk0 hme W)
  have HC := Lib.hid (fun W (hW : Below w.heap.size w W) => closed_no l v W (hs.below hW (Nat.le_refl _)) h0)
  have HK := Lib.hid (fun W (hW : Below w.heap.size w W) => blank_no l v W (hs.below hW (Nat.le_refl _)) h0)
  obtain ⟨a, c, rfl⟩ : ∃ a c, v = .slice a l.length c := by simpa using hs.shape
  have hll : l.length ≤ 9223372036854775807 := by have := hs.len_le; simp only [List.length_map, maxLen] at this; omega
  have HS := Lib.hid hs
  obtain ⟨f, t, k, d⟩ := e
  simp only at hk0 hfr hd
  subst hk0
  simp only [Ed.cells] at HM
  have HX := Lib.hid (heap_alloc_new w (.cells #[.string f, .string t, .int .i64 0, .int .i64 d] 75))
  have HB := Lib.hid (one_below w (.cells #[.string f, .string t, .int .i64 0, .int .i64 d] 75))
  have t1 : (f.toList == h.toList) = true := by rw [str_beq]; exact decide_eq_true hfr
  simp only [Ed.cells]
  by_cases hn : l.length = 0
  · have t3 : decide ((0 : Int) < (l.length : Int)) = false := decide_eq_false (by omega)
    have t4 : decide (0 < l.length) = false := decide_eq_false (by omega)
    clear hs hme hfr hd hn
    go_enter Tryz.func77, Tryz.ntmps77
    go_upto_region 7 with (first
      | ((with_reducible refine (HM.out _).mono ?_); rintro en w1 ⟨rfl, hb1⟩; have HB1 := Lib.hid (HB.out.trans (hb1.mono HB.out.size)); have HX1 := Lib.hid (blk hb1 (lt_blk HX.out) HX.out); clear hb1)
      | ((with_reducible refine (HC.out _ HB1.out).mono ?_); rintro en w2 ⟨rfl, hb2⟩; have HB2 := Lib.hid (HB1.out.trans (hb2.mono HB1.out.size)); have HX2 := Lib.hid (blk hb2 (lt_blk HX1.out) HX1.out); clear hb2)
      | ((with_reducible refine (HK.out _ HB2.out).mono ?_); rintro en w3 ⟨rfl, hb3⟩; have HB3 := Lib.hid (HB2.out.trans (hb3.mono HB2.out.size)); have HX3 := Lib.hid (blk hb3 (lt_blk HX2.out) HX2.out); clear hb3; have c0 := cell_blk HX3.out 0; have c3 := cell_blk HX3.out 3)
      | fail)
    go_quiet (fail)
    go_wp2_with fail
    go_ret
    exact ⟨rfl, below_drewN HB3.out _⟩
  · obtain ⟨j, hj⟩ : ∃ j, l.length = j + 1 := ⟨l.length - 1, by omega⟩
    have t3 : decide ((0 : Int) < (l.length : Int)) = true := decide_eq_true (by omega)
    have t4 : decide (0 < l.length) = true := decide_eq_true (by omega)
    have hlt : j < l.length := by omega
    have hld : l[j].day ≤ d := hd _ (by rw [List.getLast?_eq_getElem?]; simp [hj])
    obtain ⟨b, off, rfl, hb, d0, d1, d2, d3⟩ := ed_at hs hlt
    have HD3 : Hid (∀ W, Below w.heap.size w W → W.cell? ⟨b, off + j * 4 + 3, none⟩ = some (.int .i64 l[j].day)) := Lib.hid fun W hW => (hW.cell (p := ⟨b, off + j * 4 + 3, none⟩) hb).trans d3
    have f1 : IntKind.i64.wrap ((l.length : Int) - 1) = (j : Int) := by rw [IntWalk.i64_in _ (by omega)]; omega
    have tj : (j : Int) < (l.length : Int) := by omega
    have f2 : ((l.length : Int) - 1) = (j : Int) := by omega
    have t5 : decide (d < l[j].day) = false := decide_eq_false (by omega)
    have tj0 : (0 : Int) < (l.length : Int) := by omega
    generalize l[j].day = y at *
    clear hs hme hfr hd hn hj d0 d1 d2 d3 hlt hb hld
    go_enter Tryz.func77, Tryz.ntmps77
    go_upto_region 7 with (first
      | ((with_reducible refine (HM.out _).mono ?_); rintro en w1 ⟨rfl, hb1⟩; have HB1 := Lib.hid (HB.out.trans (hb1.mono HB.out.size)); have HX1 := Lib.hid (blk hb1 (lt_blk HX.out) HX.out); clear hb1)
      | ((with_reducible refine (HC.out _ HB1.out).mono ?_); rintro en w2 ⟨rfl, hb2⟩; have HB2 := Lib.hid (HB1.out.trans (hb2.mono HB1.out.size)); have HX2 := Lib.hid (blk hb2 (lt_blk HX1.out) HX1.out); clear hb2)
      | ((with_reducible refine (HK.out _ HB2.out).mono ?_); rintro en w3 ⟨rfl, hb3⟩; have HB3 := Lib.hid (HB2.out.trans (hb3.mono HB2.out.size)); have HX3 := Lib.hid (blk hb3 (lt_blk HX2.out) HX2.out); clear hb3; have c0 := cell_blk HX3.out 0; have c3 := cell_blk HX3.out 3)
      | fail)
    have g3 := HD3.out w3 HB3.out
    go_quiet (fail)
    go_wp2_with fail
    go_ret
    exact ⟨rfl, below_drewN HB3.out _⟩
/-- The holder of a chain. -/
def hlT (first : ByteArray) (l : List Ed) : ByteArray := (l.getLast?.map Ed.dst).getD first
theorem hlT_snoc (first : ByteArray) (l : List Ed) (e : Ed) : hlT first (l ++ [e]) = e.dst := by simp [hlT]
/-- The endorsement k is right behind the others. -/
structure EdOk (first : ByteArray) (l : List Ed) (e : Ed) : Prop where
  may : mayE e = true
  frm : e.frm = hlT first l
  day : ∀ x, l.getLast? = some x → x.day ≤ e.day
def chkV (first : ByteArray) (M : List Ed) (n : Nat) : Value := if n = M.length then .tuple #[.string (hlT first M), .int .i64 M.length, .int .i64 0] else .tuple #[.string ⟨#[]⟩, .int .i64 n, .int .i64 8]
set_option maxHeartbeats 4000000 in
theorem check_any (first : ByteArray) (M : List Ed) (n : Nat) (v : Value) (w : World) (hs : Sl w 4 v (M.map Ed.row)) (h0 : ∀ e ∈ M, e.kind = 0) (hf : nameOk first = true) (hn : n ≤ M.length) (hg : ∀ k (h : k < M.length), k < n → EdOk first (M.take k) M[k])
    (hx : ∀ h : n < M.length, mayE M[n] = true ∧ M[n].frm ≠ hlT first (M.take n)) : Calls Tryz.prog 24 #[.string first, v] w (Ret w (chkV first M n)) := by
  obtain ⟨a, c, rfl⟩ : ∃ a c, v = .slice a M.length c := by simpa using hs.shape
  have hll : M.length ≤ 9223372036854775807 := by have := hs.len_le; simp only [List.length_map, maxLen] at this; omega
  have HNM := Lib.hid (fun W => markName_any first W)
  rw [hf] at HNM
  have HS := Lib.hid hs
  have HG := Lib.hid hg
  have HX := Lib.hid hx
  have HN := Lib.hid hn
  clear hs hg hf hx hn
  go_enter Tryz.func24, Tryz.ntmps24
  go_wp2_with fail
  go_step3
  go_wp2_with (first
    | ((with_reducible refine (HNM.out _).mono ?_); rintro en w1 ⟨rfl, hb1⟩; have HB1 := Lib.hid hb1; clear hb1)
    | fail)
  go_step3
  go_wp2_with fail
  go_loopw [4, 5, 6, 7, 14] (fun hv av ev _ iv wr => ∃ k : Nat, k ≤ n ∧ iv = .int .i64 k ∧ hv = .string (hlT first (M.take k)) ∧ av = .int .i64 0 ∧ ev = .int .i64 0 ∧ Below w.heap.size w wr) (fun _ _ _ _ iv _ => M.length - (intOf iv).toNat)
  case atStart => exact ⟨0, Nat.zero_le _, rfl, rfl, rfl, rfl, HB1.out⟩
  case round =>
    obtain ⟨k, hk, rfl, rfl, rfl, rfl, hbel⟩ := hrel
    have HBEL := Lib.hid hbel
    by_cases hlt : k < M.length
    · obtain ⟨b, off, rfl, hb, d0, d1, d2, d3⟩ := ed_at HS.out hlt
      obtain ⟨hcap, hst⟩ := HS.out.take (m := k) (by simp; omega)
      rw [← List.map_take] at hst
      have q44 : ∀ W : World, (Instr.slice 70 (.slice (some ⟨b, off, none⟩) M.length c) none (some (.int .i64 (k : Int))) none).run Tryz.prog W = .ok (.slice (some ⟨b, off, none⟩) k c) W := fun W => by
        obtain ⟨i0, hi, _⟩ := info_parts infoEd
        exact Any.run_slice_to Tryz.underlying70 hi _ M.length c k hcap
      have tk : ((k : Nat) : Int) < (M.length : Int) := by omega
      have hkM : M[k].kind = 0 := h0 _ (List.getElem_mem hlt)
      have h0t : ∀ e ∈ M.take k, e.kind = 0 := fun e he => h0 e (List.mem_of_mem_take he)
      have hnx : hlT first (M.take (k + 1)) = M[k].dst := by rw [List.take_succ_eq_append_getElem hlt, hlT_snoc]
      have hgk : k < n → EdOk first (M.take k) M[k] := fun h => HG.out k hlt h
      have hxk : k = n → mayE M[k] = true ∧ M[k].frm ≠ hlT first (M.take k) := fun e => by subst e; exact HX.out hlt
      have HKM : Hid (k < M.length) := Lib.hid hlt
      have hlen : (M.take k).length = k := by rw [List.length_take]; omega
      generalize M[k] = y at *
      obtain ⟨yf, yt, yk, yd⟩ := y
      simp only at d0 d1 d2 d3 hkM hnx
      subst hkM
      have HNX := Lib.hid hnx
      have HD : Hid (∀ W, Below wr.heap.size wr W → W.cell? ⟨b, off + k * 4, none⟩ = some (.string yf) ∧ W.cell? ⟨b, off + k * 4 + 1, none⟩ = some (.string yt) ∧ W.cell? ⟨b, off + k * 4 + 2, none⟩ = some (.int .i64 0) ∧ W.cell? ⟨b, off + k * 4 + 3, none⟩ = some (.int .i64 yd)) := Lib.hid (fun W hW => by
        have hB := hbel.trans (hW.mono hbel.size)
        exact ⟨(hB.cell (p := ⟨b, off + k * 4, none⟩) hb).trans d0, (hB.cell (p := ⟨b, off + k * 4 + 1, none⟩) hb).trans d1, (hB.cell (p := ⟨b, off + k * 4 + 2, none⟩) hb).trans d2, (hB.cell (p := ⟨b, off + k * 4 + 3, none⟩) hb).trans d3⟩)
      by_cases hkn : k < n
      · have hg1 := hgk hkn
        have HKN : Hid (k + 1 ≤ n) := Lib.hid hkn
        have HWR : Hid (∀ W, Below wr.heap.size wr W → Calls Tryz.prog 77 #[.string (hlT first (M.take k)), .slice (some ⟨b, off, none⟩) k c, .agg #[.string yf, .string yt, .int .i64 0, .int .i64 yd]] W (Ret W (.int .i64 0))) := Lib.hid (fun W hW =>
          wrong_ok (hlT first (M.take k)) (M.take k) ⟨yf, yt, 0, yd⟩ (.slice (some ⟨b, off, none⟩) k c) W (hst.below (hbel.trans (hW.mono hbel.size)) (Nat.le_refl _)) h0t rfl hg1.may hg1.frm hg1.day)
        generalize hlT first (M.take k) = h at *
        clear hgk hxk hg1 hst d0 d1 d2 d3 hcap h0t hlen hb hbel hk hkn hlt hnx
        go_wp2_with fail
        refine Any.region_lit (fun
          | 0 => Any.val (.string h)
          | 1 => Any.val (.slice (some ⟨b, off, none⟩) M.length c)
          | 2 => Any.val (.int .i64 (k : Int))
          | 3 => Any.val (.slice (some ⟨b, off, none⟩) k c)
          | 4 => Any.val (.slice (some ⟨b, off, none⟩) M.length c)
          | 5 => Any.val (.int .i64 (k : Int))
          | 6 => Any.val (.pointer (some ⟨b, off + k * 4, none⟩))
          | 7 => Any.val (.agg #[.string yf, .string yt, .int .i64 0, .int .i64 yd])
          | 8 => Any.val (.int .i64 0)
          | 9 => Any.val (.int .i64 0)
          | _ => Any.idle) (by kernel_rfl) (by kernel_rfl) (by kernel_rfl) ?_ ?_ ?_
        · intro i _
          match i with
          | 0 => exact Any.lasts_val _
          | 1 => exact Any.lasts_val _
          | 2 => exact Any.lasts_val _
          | 3 => exact Any.lasts_val _
          | 4 => exact Any.lasts_val _
          | 5 => exact Any.lasts_val _
          | 6 => exact Any.lasts_val _
          | 7 => exact Any.lasts_val _
          | 8 => exact Any.lasts_val _
          | 9 => exact Any.lasts_val _
          | n + 10 => exact Any.lasts_idle
        · refine ⟨?_, ?_, ?_, ?_, ?_, ?_, ?_, ?_, ?_, ?_, trivial⟩
          · refine Any.owes_plain rfl fun ρ wo hs' hb hc' => ?_
            have h4 : ρ (.tmp 4) = .string h := hs'.old' 4 (by kernel_rfl)
            exact Any.ok_move (Any.post_val hb rfl h4)
          · refine Any.owes_plain rfl fun ρ wo hs' hb hc' => ?_
            have h1 : ρ (.tmp 1) = .slice (some ⟨b, off, none⟩) M.length c := hs'.old' 1 (by kernel_rfl)
            exact Any.ok_move (Any.post_val hb rfl h1)
          · refine Any.owes_plain rfl fun ρ wo hs' hb hc' => ?_
            have h7 : ρ (.tmp 7) = .int .i64 (k : Int) := hs'.old' 7 (by kernel_rfl)
            exact Any.ok_move (Any.post_val hb rfl h7)
          · refine Any.owes_plain rfl fun ρ wo hs' hb hc' => ?_
            have h18 : ρ (.tmp 18) = .slice (some ⟨b, off, none⟩) M.length c := hs'.new' 18 1 (by kernel_rfl)
            have h19 : ρ (.tmp 19) = .int .i64 (k : Int) := hs'.new' 19 2 (by kernel_rfl)
            go_simp
            exact Any.post_val hb rfl rfl
          · refine Any.owes_plain rfl fun ρ wo hs' hb hc' => ?_
            have h1 : ρ (.tmp 1) = .slice (some ⟨b, off, none⟩) M.length c := hs'.old' 1 (by kernel_rfl)
            exact Any.ok_move (Any.post_val hb rfl h1)
          · refine Any.owes_plain rfl fun ρ wo hs' hb hc' => ?_
            have h7 : ρ (.tmp 7) = .int .i64 (k : Int) := hs'.old' 7 (by kernel_rfl)
            exact Any.ok_move (Any.post_val hb rfl h7)
          · refine Any.owes_plain rfl fun ρ wo hs' hb hc' => ?_
            have h21 : ρ (.tmp 21) = .slice (some ⟨b, off, none⟩) M.length c := hs'.new' 21 4 (by kernel_rfl)
            have h22 : ρ (.tmp 22) = .int .i64 (k : Int) := hs'.new' 22 5 (by kernel_rfl)
            go_simp
            exact Any.post_val hb rfl rfl
          · refine Any.owes_plain rfl fun ρ wo hs' hb hc' => ?_
            have h23 : ρ (.tmp 23) = .pointer (some ⟨b, off + k * 4, none⟩) := hs'.new' 23 6 (by kernel_rfl)
            have c0 : wo.cell? ⟨b, off + k * 4, none⟩ = some (.string yf) := (HD.out wo (below_undrew hb)).1
            have c1 : wo.cell? ⟨b, off + k * 4 + 1, none⟩ = some (.string yt) := (HD.out wo (below_undrew hb)).2.1
            have c2 : wo.cell? ⟨b, off + k * 4 + 2, none⟩ = some (.int .i64 0) := (HD.out wo (below_undrew hb)).2.2.1
            have c3 : wo.cell? ⟨b, off + k * 4 + 3, none⟩ = some (.int .i64 yd) := (HD.out wo (below_undrew hb)).2.2.2
            go_simp
            exact Any.post_val hb rfl rfl
          · refine Any.owes_plain rfl fun ρ wo hs' hb hc' => ?_
            have h17 : ρ (.tmp 17) = .string h := hs'.new' 17 0 (by kernel_rfl)
            have h20 : ρ (.tmp 20) = .slice (some ⟨b, off, none⟩) k c := hs'.new' 20 3 (by kernel_rfl)
            have h24 : ρ (.tmp 24) = .agg #[.string yf, .string yt, .int .i64 0, .int .i64 yd] := hs'.new' 24 7 (by kernel_rfl)
            have hf := hs'.func 77
            go_simp
            exact (HWR.out wo (below_undrew hb)).mono fun e w' ⟨he, hb'⟩ => ⟨_, he, Any.post_vals hb rfl rfl hb'⟩
          · refine Any.owes_plain rfl fun ρ wo hs' hb hc' => ?_
            have h25 : ρ (.tmp 25) = .int .i64 0 := hs'.new' 25 8 (by kernel_rfl)
            exact Any.ok_assign (Any.post_val hb rfl h25)
        intro vals w5 hb hk ha
        have h9 : vals 9 = .int .i64 0 := hk 9 (by kernel_rfl)
        have HB5o := Lib.hid hb
        have HB5 := Lib.hid (HBEL.out.trans (hb.mono HBEL.out.size))
        clear hk ha hb
        simp only [Any.putAll]
        go_frame
        simp only [Nat.zero_add, Nat.reduceAdd]
        rw [h9]
        clear h9
        have g1 := (HD.out _ HB5o.out).2.1
        go_wp2_with fail
        go_roundw
        case rel => exact ⟨k + 1, HKN.out, by go_num, by rw [HNX.out], rfl, rfl, HB5.out⟩
        case measure => have := HKM.out; (simp [intOf]) <;> omega
      · have hkn' : k = n := by omega
        obtain ⟨x1, x2⟩ := hxk hkn'
        have HWR : Hid (∀ W, Below wr.heap.size wr W → Calls Tryz.prog 77 #[.string (hlT first (M.take k)), .slice (some ⟨b, off, none⟩) k c, .agg #[.string yf, .string yt, .int .i64 0, .int .i64 yd]] W (Ret W (.int .i64 8))) := Lib.hid (fun W hW =>
          wrong_hold (hlT first (M.take k)) (M.take k) ⟨yf, yt, 0, yd⟩ (.slice (some ⟨b, off, none⟩) k c) W (hst.below (hbel.trans (hW.mono hbel.size)) (Nat.le_refl _)) h0t rfl x1 x2)
        have hne : ¬ n = M.length := by omega
        have HV : Hid (chkV first M n = .tuple #[.string ⟨#[]⟩, .int .i64 k, .int .i64 8]) := Lib.hid (by rw [chkV, if_neg hne, hkn'])
        generalize hlT first (M.take k) = h at *
        clear hgk hxk x1 x2 hst d0 d1 d2 d3 hcap h0t hlen hb hbel hk hkn hlt hnx hne hkn'
        go_wp2_with fail
        refine Any.region_lit (fun
          | 0 => Any.val (.string h)
          | 1 => Any.val (.slice (some ⟨b, off, none⟩) M.length c)
          | 2 => Any.val (.int .i64 (k : Int))
          | 3 => Any.val (.slice (some ⟨b, off, none⟩) k c)
          | 4 => Any.val (.slice (some ⟨b, off, none⟩) M.length c)
          | 5 => Any.val (.int .i64 (k : Int))
          | 6 => Any.val (.pointer (some ⟨b, off + k * 4, none⟩))
          | 7 => Any.val (.agg #[.string yf, .string yt, .int .i64 0, .int .i64 yd])
          | 8 => Any.val (.int .i64 8)
          | 9 => Any.val (.int .i64 8)
          | _ => Any.idle) (by kernel_rfl) (by kernel_rfl) (by kernel_rfl) ?_ ?_ ?_
        · intro i _
          match i with
          | 0 => exact Any.lasts_val _
          | 1 => exact Any.lasts_val _
          | 2 => exact Any.lasts_val _
          | 3 => exact Any.lasts_val _
          | 4 => exact Any.lasts_val _
          | 5 => exact Any.lasts_val _
          | 6 => exact Any.lasts_val _
          | 7 => exact Any.lasts_val _
          | 8 => exact Any.lasts_val _
          | 9 => exact Any.lasts_val _
          | n + 10 => exact Any.lasts_idle
        · refine ⟨?_, ?_, ?_, ?_, ?_, ?_, ?_, ?_, ?_, ?_, trivial⟩
          · refine Any.owes_plain rfl fun ρ wo hs' hb hc' => ?_
            have h4 : ρ (.tmp 4) = .string h := hs'.old' 4 (by kernel_rfl)
            exact Any.ok_move (Any.post_val hb rfl h4)
          · refine Any.owes_plain rfl fun ρ wo hs' hb hc' => ?_
            have h1 : ρ (.tmp 1) = .slice (some ⟨b, off, none⟩) M.length c := hs'.old' 1 (by kernel_rfl)
            exact Any.ok_move (Any.post_val hb rfl h1)
          · refine Any.owes_plain rfl fun ρ wo hs' hb hc' => ?_
            have h7 : ρ (.tmp 7) = .int .i64 (k : Int) := hs'.old' 7 (by kernel_rfl)
            exact Any.ok_move (Any.post_val hb rfl h7)
          · refine Any.owes_plain rfl fun ρ wo hs' hb hc' => ?_
            have h18 : ρ (.tmp 18) = .slice (some ⟨b, off, none⟩) M.length c := hs'.new' 18 1 (by kernel_rfl)
            have h19 : ρ (.tmp 19) = .int .i64 (k : Int) := hs'.new' 19 2 (by kernel_rfl)
            go_simp
            exact Any.post_val hb rfl rfl
          · refine Any.owes_plain rfl fun ρ wo hs' hb hc' => ?_
            have h1 : ρ (.tmp 1) = .slice (some ⟨b, off, none⟩) M.length c := hs'.old' 1 (by kernel_rfl)
            exact Any.ok_move (Any.post_val hb rfl h1)
          · refine Any.owes_plain rfl fun ρ wo hs' hb hc' => ?_
            have h7 : ρ (.tmp 7) = .int .i64 (k : Int) := hs'.old' 7 (by kernel_rfl)
            exact Any.ok_move (Any.post_val hb rfl h7)
          · refine Any.owes_plain rfl fun ρ wo hs' hb hc' => ?_
            have h21 : ρ (.tmp 21) = .slice (some ⟨b, off, none⟩) M.length c := hs'.new' 21 4 (by kernel_rfl)
            have h22 : ρ (.tmp 22) = .int .i64 (k : Int) := hs'.new' 22 5 (by kernel_rfl)
            go_simp
            exact Any.post_val hb rfl rfl
          · refine Any.owes_plain rfl fun ρ wo hs' hb hc' => ?_
            have h23 : ρ (.tmp 23) = .pointer (some ⟨b, off + k * 4, none⟩) := hs'.new' 23 6 (by kernel_rfl)
            have c0 : wo.cell? ⟨b, off + k * 4, none⟩ = some (.string yf) := (HD.out wo (below_undrew hb)).1
            have c1 : wo.cell? ⟨b, off + k * 4 + 1, none⟩ = some (.string yt) := (HD.out wo (below_undrew hb)).2.1
            have c2 : wo.cell? ⟨b, off + k * 4 + 2, none⟩ = some (.int .i64 0) := (HD.out wo (below_undrew hb)).2.2.1
            have c3 : wo.cell? ⟨b, off + k * 4 + 3, none⟩ = some (.int .i64 yd) := (HD.out wo (below_undrew hb)).2.2.2
            go_simp
            exact Any.post_val hb rfl rfl
          · refine Any.owes_plain rfl fun ρ wo hs' hb hc' => ?_
            have h17 : ρ (.tmp 17) = .string h := hs'.new' 17 0 (by kernel_rfl)
            have h20 : ρ (.tmp 20) = .slice (some ⟨b, off, none⟩) k c := hs'.new' 20 3 (by kernel_rfl)
            have h24 : ρ (.tmp 24) = .agg #[.string yf, .string yt, .int .i64 0, .int .i64 yd] := hs'.new' 24 7 (by kernel_rfl)
            have hf := hs'.func 77
            go_simp
            exact (HWR.out wo (below_undrew hb)).mono fun e w' ⟨he, hb'⟩ => ⟨_, he, Any.post_vals hb rfl rfl hb'⟩
          · refine Any.owes_plain rfl fun ρ wo hs' hb hc' => ?_
            have h25 : ρ (.tmp 25) = .int .i64 8 := hs'.new' 25 8 (by kernel_rfl)
            exact Any.ok_assign (Any.post_val hb rfl h25)
        intro vals w5 hb hk ha
        have h9 : vals 9 = .int .i64 8 := hk 9 (by kernel_rfl)
        have HB5 := Lib.hid (HBEL.out.trans (hb.mono HBEL.out.size))
        clear hk ha hb
        simp only [Any.putAll]
        go_frame
        simp only [Nat.zero_add, Nat.reduceAdd]
        rw [h9]
        clear h9
        go_wp2_with fail
        go_ret3
        exact ⟨by rw [HV.out]; rfl, HB5.out⟩
    · obtain rfl : k = n := by have := HN.out; omega
      have hkl : k = M.length := by have := HN.out; omega
      have HV : Hid (chkV first M k = .tuple #[.string (hlT first (M.take k)), .int .i64 M.length, .int .i64 0]) := Lib.hid (by rw [chkV, if_pos hkl, List.take_of_length_le (by omega)])
      have tk : ¬ ((k : Nat) : Int) < (M.length : Int) := by omega
      clear hbel hk hlt hkl
      go_wp2_with fail
      go_ret3
      exact ⟨by rw [HV.out]; rfl, HBEL.out⟩
/-- A chain that is right. -/
structure ChR (first : ByteArray) (M : List Ed) : Prop where
  kind : ∀ e ∈ M, e.kind = 0
  ok : ∀ k (h : k < M.length), EdOk first (M.take k) M[k]
theorem chR_nil (first : ByteArray) : ChR first [] := ⟨fun _ h => (by cases h), fun _ h => absurd h (Nat.not_lt_zero _)⟩
theorem ChR.snoc {first : ByteArray} {M : List Ed} {e : Ed} (h : ChR first M) (he : EdOk first M e) (hk : e.kind = 0) : ChR first (M ++ [e]) := by
  refine ⟨fun x hx => ?_, fun k hk' => ?_⟩
  · rcases List.mem_append.1 hx with h1 | h1
    · exact h.kind x h1
    · rw [List.mem_singleton.1 h1]; exact hk
  · rw [List.length_append] at hk'
    by_cases hlt : k < M.length
    · rw [List.getElem_append_left hlt, List.take_append_of_le_length (by omega)]
      exact h.ok k hlt
    · have : k = M.length := by simp at hk'; omega
      subst this
      simp only [List.take_left', List.getElem_append_right (Nat.le_refl _), Nat.sub_self, List.getElem_cons_zero]
      exact he
theorem check_right (first : ByteArray) (M : List Ed) (v : Value) (w : World) (hs : Sl w 4 v (M.map Ed.row)) (hf : nameOk first = true) (h : ChR first M) :
    Calls Tryz.prog 24 #[.string first, v] w (Ret w (.tuple #[.string (hlT first M), .int .i64 M.length, .int .i64 0])) := by
  have := check_any first M M.length v w hs h.kind hf (Nat.le_refl _) (fun k hk _ => h.ok k hk) (fun h => absurd h (Nat.lt_irrefl _))
  rw [chkV, if_pos rfl] at this
  exact this
theorem check_broken (first : ByteArray) (M : List Ed) (e : Ed) (v : Value) (w : World) (hs : Sl w 4 v ((M ++ [e]).map Ed.row)) (hf : nameOk first = true) (h : ChR first M) (hk : e.kind = 0) (hm : mayE e = true) (hne : e.frm ≠ hlT first M) :
    Calls Tryz.prog 24 #[.string first, v] w (Ret w (.tuple #[.string ⟨#[]⟩, .int .i64 M.length, .int .i64 8])) := by
  have := check_any first (M ++ [e]) M.length v w hs (fun x hx => by
    rcases List.mem_append.1 hx with h1 | h1
    · exact h.kind x h1
    · rw [List.mem_singleton.1 h1]; exact hk) hf (by simp) (fun k hk' hlt => by
      rw [List.getElem_append_left hlt, List.take_append_of_le_length (by omega)]
      exact h.ok k hlt) (fun hlt => by
      simp only [List.take_left', List.getElem_append_right (Nat.le_refl _), Nat.sub_self, List.getElem_cons_zero]
      exact ⟨hm, hne⟩)
  rw [chkV, if_neg (by simp)] at this
  exact this
set_option maxHeartbeats 1000000 in
theorem holder_any (first : ByteArray) (M : List Ed) (v : Value) (w : World) (hs : Sl w 4 v (M.map Ed.row)) (hf : nameOk first = true) (h : ChR first M) :
    Calls Tryz.prog 72 #[.string first, v] w (Ret w (.string (hlT first M))) := by
  have HC := Lib.hid (check_right first M v w hs hf h)
  generalize hlT first M = x at *
  clear hs hf h
  go_enter Tryz.func72, Tryz.ntmps72
  go_wp2_with (first
    | ((with_reducible refine HC.out.mono ?_); rintro en w1 ⟨rfl, hb1⟩; have HB1 := Lib.hid hb1; clear hb1)
    | fail)
  go_ret
  exact ⟨rfl, HB1.out⟩
set_option maxHeartbeats 1000000 in
theorem mayEn_no (first who : ByteArray) (M : List Ed) (v : Value) (w : World) (hs : Sl w 4 v (M.map Ed.row)) (hf : nameOk first = true) (h : ChR first M) (hw : nameOk who = true) (hne : who ≠ hlT first M) :
    Calls Tryz.prog 25 #[.string first, .string who, v] w (RetB w false) := by
  have HC := Lib.hid (check_right first M v w hs hf h)
  have HN := Lib.hid (fun W => markName_any who W)
  rw [hw] at HN
  have HCL := Lib.hid (fun W (hW : Below w.heap.size w W) => closed_no M v W (hs.below hW (Nat.le_refl _)) h.kind)
  have HBL := Lib.hid (fun W (hW : Below w.heap.size w W) => blank_no M v W (hs.below hW (Nat.le_refl _)) h.kind)
  have t1 : (who.toList == (hlT first M).toList) = false := by rw [str_beq]; exact decide_eq_false hne
  generalize hlT first M = x at *
  clear hs hf h hw hne
  go_enter Tryz.func25, Tryz.ntmps25
  go_wp2_with (first
    | ((with_reducible refine HC.out.mono ?_); rintro en w1 ⟨rfl, hb1⟩; have HB1 := Lib.hid hb1; clear hb1)
    | ((with_reducible refine (HN.out _).mono ?_); rintro en w2 ⟨rfl, hb2⟩; have HB2 := Lib.hid (HB1.out.trans (hb2.mono HB1.out.size)); clear hb2)
    | ((with_reducible refine (HCL.out _ HB2.out).mono ?_); rintro en w3 ⟨rfl, hb3⟩; have HB3 := Lib.hid (HB2.out.trans (hb3.mono HB2.out.size)); clear hb3)
    | ((with_reducible refine (HBL.out _ HB3.out).mono ?_); rintro en w4 ⟨rfl, hb4⟩; have HB4 := Lib.hid (HB3.out.trans (hb4.mono HB3.out.size)); clear hb4)
    | fail)
  go_ret
  exact retB rfl HB4.out
end Go.Proofs.YtbigoifpfkdkjaaGreatDoor.Sc
