/- Rows of consignments; ContainsFunc over them. The first check of consignments: it does not hold. The second check of consignments: it does not hold. What Left and Value ask first: no check holds. checks: none holds. What lots of an order are worth; plainly. -/
import Derived.Test.YtnbhneeohkfocaaDoorTo17
import Derived.Shelf.Abstract
namespace Go.Proofs.YtnbhneeohkfocaaDoor.Sc
open Go Go.RowKit Go.ChangeShapes Go.WideShapes Go.ChangeAt
set_option maxRecDepth 100000

structure Con where
  nm : ByteArray
  num : Int
  lat : Int
  lots : Value
def Con.cells (x : Con) : Array Value := #[.string x.nm, .int .i64 x.num, .int .i64 x.lat, x.lots]
def Con.row (x : Con) : List Value := x.cells.toList
def conCells (l : List Con) : List Value := l.flatMap Con.row
theorem con_one (x : Con) (hlots : x.lots.oneCell' = true) : ∀ u ∈ x.cells.toList, u.oneCell' = true := by
  intro u hu
  simp only [Con.cells, List.mem_cons, List.not_mem_nil, or_false] at hu
  rcases hu with rfl | rfl | rfl | rfl <;> first | rfl | assumption
theorem conCells_flat (l : List Con) : conCells l = (l.map Con.row).flatten := by rw [conCells, List.flatMap_def]
theorem con_rows (l : List Con) : ∀ r ∈ l.map Con.row, r.length = 4 := by
  intro r hr
  obtain ⟨b, -, rfl⟩ := List.mem_map.1 hr
  rfl
theorem conCells_append (a b : List Con) : conCells (a ++ b) = conCells a ++ conCells b := by simp [conCells]
theorem own_cons {w : World} {B n : Nat} {v : Value} {l : List Con} (h : w.ownsRow B 43 4 v n (conCells l)) (hn : n = l.length) : Sl w 4 v (l.map Con.row) := by
  rw [conCells_flat] at h
  exact own_sl h (by simpa using hn) (con_rows l)
theorem src_cons {w : World} {v : Value} {l : List Con} (h : Sl w 4 v (l.map Con.row)) : Src w 4 v l.length (conCells l) := by
  have := h.src (con_rows l) (by decide)
  rw [conCells_flat]
  simpa using this
/-- What one in a row reads. -/
def ConAt (w : World) (b o : Nat) (x : Con) : Prop := w.cell? ⟨b, o, none⟩ = some (.string x.nm) ∧ w.cell? ⟨b, o + 1, none⟩ = some (.int .i64 x.num) ∧ w.cell? ⟨b, o + 2, none⟩ = some (.int .i64 x.lat) ∧ w.cell? ⟨b, o + 3, none⟩ = some (x.lots)
theorem con_at {w : World} {a : Option Addr} {n c : Nat} {l : List Con} (h : Sl w 4 (.slice a n c) (l.map Con.row)) {k : Nat} (hk : k < l.length) : ∃ b off, a = some ⟨b, off, none⟩ ∧ b < w.heap.size ∧ ConAt w b (off + k * 4) l[k] := by
  obtain ⟨b, off, e, -, hb, hc⟩ := h.at (i := k) (by simpa using hk)
  have hr := hc k l[k].row (by rw [List.getElem?_map, List.getElem?_eq_getElem hk]; rfl)
  exact ⟨b, off, e, hb, hr 0 _ rfl, hr 1 _ rfl, hr 2 _ rfl, hr 3 _ rfl⟩
theorem ConAt.below {w w' : World} {b o B : Nat} {x : Con} (h : ConAt w b o x) (hb : b < B) (hw : Below B w w') : ConAt w' b o x := by
  obtain ⟨h0, h1, h2, h3⟩ := h
  exact ⟨(hw.cell (p := ⟨b, o, none⟩) hb).trans h0, (hw.cell (p := ⟨b, o + 1, none⟩) hb).trans h1, (hw.cell (p := ⟨b, o + 2, none⟩) hb).trans h2, (hw.cell (p := ⟨b, o + 3, none⟩) hb).trans h3⟩
theorem ConAt.keep {F : Nat → Prop} {w w' : World} {b o : Nat} {x : Con} (h : ConAt w b o x) (hb : b < w.heap.size) (hn : ¬ F b) (hw : Keep F w w') : ConAt w' b o x := by
  obtain ⟨h0, h1, h2, h3⟩ := h
  exact ⟨(hw.cell (o := o) hb hn).trans h0, (hw.cell (o := o + 1) hb hn).trans h1, (hw.cell (o := o + 2) hb hn).trans h2, (hw.cell (o := o + 3) hb hn).trans h3⟩
/-- .. and in a box. -/
theorem con_box {w : World} {b : Nat} {x : Con} {T : TypeId} (h : w.heap[b]? = some (.cells x.cells T (0, 0))) : w.cell? ⟨b, 0, none⟩ = some (.string x.nm) ∧ w.cell? ⟨b, 1, none⟩ = some (.int .i64 x.num) ∧ w.cell? ⟨b, 2, none⟩ = some (.int .i64 x.lat) ∧ w.cell? ⟨b, 3, none⟩ = some (x.lots) := ⟨cell_blk h 0, cell_blk h 1, cell_blk h 2, cell_blk h 3⟩
theorem any_dropN {l : List Con} {k : Nat} (h : k < l.length) (f : Con → Bool) : (l.drop k).any f = (f l[k] || (l.drop (k + 1)).any f) := by rw [List.drop_eq_getElem_cons h, List.any_cons]
def IdxN (w : World) (b : Bool) (e : Ending) (w' : World) : Prop := ∃ i : Int, e = .returned (.int .i64 i) ∧ decide (0 ≤ i) = b ∧ Below w.heap.size w w'
set_option maxHeartbeats 4000000 in
theorem indexN_any (f : Con → Bool) (g : Nat) (cb : Array Value) (l : List Con) (v : Value) (w : World) (hs : Sl w 4 v (l.map Con.row)) (eg : ∀ args w, (callFunc g args).run Tryd.prog w = .ok (.enter g args) w)
    (hcl : ∀ W (x : Con), x ∈ l → Below w.heap.size w W → Calls Tryd.prog g (#[.agg x.cells] ++ cb) W (RetB W (f x))) :
    Calls Tryd.prog 64 #[v, .func (.func g) #[] cb] w (IdxN w (l.any f)) := by
  obtain ⟨a, c, rfl⟩ : ∃ a c, v = .slice a l.length c := by simpa using hs.shape
  have hll : l.length ≤ 9223372036854775807 := by have := hs.len_le; simp only [List.length_map, maxLen] at this; omega
  have HS := Lib.hid hs
  have HCL := Lib.hid hcl
  clear hs hcl
  go_enter Tryd.func64, Tryd.ntmps64
  go_wp2_with fail
  go_loopw [5, 8] (fun _ i wr => ∃ k : Nat, k ≤ l.length ∧ i = .int .i64 k ∧ l.any f = (l.drop k).any f ∧ Below w.heap.size w wr) (fun _ i _ => l.length - (intOf i).toNat)
  case atStart => exact ⟨0, Nat.zero_le _, rfl, rfl, Below.refl _ _⟩
  case round =>
    obtain ⟨k, hk, rfl, hrel, hbel⟩ := hrel
    have HBEL := Lib.hid hbel
    by_cases hlt : k < l.length
    · obtain ⟨b, off, rfl, hb, hp⟩ := con_at HS.out hlt
      obtain ⟨d0, d1, d2, d3⟩ := hp.below hb hbel
      rw [any_dropN hlt] at hrel
      have HC := Lib.hid (HCL.out wr l[k] (List.getElem_mem hlt) hbel)
      have tk : ((k : Nat) : Int) < (l.length : Int) := by omega
      generalize l[k] = x at *
      obtain ⟨x0, x1, x2, x3⟩ := x
      simp only at d0 d1 d2 d3
      clear hb hp hbel
      generalize hr : f ⟨x0, x1, x2, x3⟩ = r at *
      clear hr
      simp only [Con.cells] at HC
      cases r
      · have HR := Lib.hid hrel
        clear hrel
        go_wp2_with (first
          | (go_at_fn g; refine HC.out.mono ?_; rintro e w2 ⟨rfl, hb2⟩; have HB2 := Lib.hid (HBEL.out.trans (hb2.mono HBEL.out.size)); clear hb2)
          | fail)
        go_roundw
        case rel => exact ⟨k + 1, by omega, by go_num, by rw [HR.out]; rfl, HB2.out⟩
        case measure => (simp [intOf]) <;> omega
      · have HR := Lib.hid hrel
        clear hrel
        go_wp2_with (first
          | (go_at_fn g; refine HC.out.mono ?_; rintro e w2 ⟨rfl, hb2⟩; have HB2 := Lib.hid (HBEL.out.trans (hb2.mono HBEL.out.size)); clear hb2)
          | fail)
        go_ret
        exact ⟨k, rfl, by rw [HR.out]; simp, HB2.out⟩
    · have HE : Hid (l.any f = false) := Lib.hid (by rw [hrel, List.drop_of_length_le (by omega)]; rfl)
      clear hrel hbel hk
      go_wp2_with fail
      go_ret
      exact ⟨-1, rfl, by rw [HE.out]; rfl, HBEL.out⟩
theorem containsN_any (f : Con → Bool) (g : Nat) (cb : Array Value) (l : List Con) (v : Value) (w : World) (hs : Sl w 4 v (l.map Con.row)) (eg : ∀ args w, (callFunc g args).run Tryd.prog w = .ok (.enter g args) w)
    (hcl : ∀ W (x : Con), x ∈ l → Below w.heap.size w W → Calls Tryd.prog g (#[.agg x.cells] ++ cb) W (RetB W (f x))) :
    Calls Tryd.prog 40 #[v, .func (.func g) #[] cb] w (RetB w (l.any f)) := by
  have HI := Lib.hid (indexN_any f g cb l v w hs eg hcl)
  clear hs hcl eg
  go_enter Tryd.func40, Tryd.ntmps40
  go_wp2_with (first
    | ((with_reducible refine HI.out.mono ?_); rintro e w2 ⟨i, rfl, hi, hb2⟩; have HB2 := Lib.hid hb2; have HQ := Lib.hid hi; clear hb2 hi)
    | fail)
  go_ret
  exact ⟨by rw [← HQ.out]; rfl, HB2.out⟩
end Go.Proofs.YtnbhneeohkfocaaDoor.Sc
namespace Go.Proofs.YtnbhneeohkfocaaDoor.Sc
open Go Go.RowKit Go.ChangeShapes Go.WideShapes Go.ChangeAt
set_option maxRecDepth 100000

/-- A consignment of the order s0. -/
def ConOk (W : World) (s0 : ByteArray) (x : Con) : Prop := x.nm = s0 ∧ ∃ l : List Lt, Sl W 2 x.lots (l.map Lt.row) ∧ (∀ y ∈ l, nameOk y.good = true ∧ cntO y.cnt = true) ∧ l.length ≤ 64
theorem ConOk.below {W W' : World} {s0 : ByteArray} {x : Con} (h : ConOk W s0 x) (hb : Below W.heap.size W W') : ConOk W' s0 x := by
  obtain ⟨h1, l, h2, h3, h4⟩ := h
  exact ⟨h1, l, h2.below hb (Nat.le_refl _), h3, h4⟩
section
variable {s0 s1 s2 s3 s4 s5 : ByteArray} {tm : Int} {L : List Ln} {a : Option Addr} {c : Nat}
theorem con_not (x : Con) (bo : Nat) (w : World) (ho : w.heap[bo]? = some (.cells #[.string s0, .string s1, .string s2, .string s3, .string s4, .string s5, .int .i64 tm, .slice a L.length c] 24 (0, 0))) (hx : ConOk w s0 x) : Calls Tryd.prog 41 #[.agg x.cells, .pointer (some ⟨bo, 0, none⟩)] w (RetB w false) := by
  obtain ⟨xn, xm, xl, xv⟩ := x
  obtain ⟨h1, l, h2, h3, h4⟩ := hx
  simp only at h1 h2
  subst h1
  obtain ⟨a2, c2, rfl⟩ : ∃ a c, xv = .slice a l.length c := by simpa using h2.shape
  have HB := Lib.hid (one_below w (.cells #[.string xn, .int .i64 xm, .int .i64 xl, .slice a2 l.length c2] 43))
  have HO := Lib.hid (of_yes (s0 := xn) (s1 := s1) (s2 := s2) (s3 := s3) (s4 := s4) (s5 := s5) (tm := tm) (L := L) (a := a) (c := c) l a2 c2 xm xl _ (h2.below HB.out (Nat.le_refl _)) h3 h4)
  have hq := blk HB.out (lt_blk ho) ho
  have x0 := cell_blk hq 0
  have x1 := cell_blk hq 1
  have x2 := cell_blk hq 2
  have x3 := cell_blk hq 3
  have x4 := cell_blk hq 4
  have x5 := cell_blk hq 5
  have x6 := cell_blk hq 6
  have x7 := cell_blk hq 7
  simp only [Con.cells]
  clear h2 h3 h4 ho hq
  go_enter Tryd.func41, Tryd.ntmps41
  go_wp2_with (first
    | ((with_reducible refine HO.out.mono ?_); rintro e w1 ⟨rfl, hb1⟩; have HB1 := Lib.hid (HB.out.trans (hb1.mono HB.out.size)); clear hb1)
    | fail)
  go_ret
  exact retB rfl HB1.out
set_option maxHeartbeats 4000000 in
theorem checks1_no (lc : List Con) (v : Value) (bo bl : Nat) (w : World) (ho : w.heap[bo]? = some (.cells #[.string s0, .string s1, .string s2, .string s3, .string s4, .string s5, .int .i64 tm, .slice a L.length c] 24 (0, 0))) (hl : w.cell? ⟨bl, 0, none⟩ = some v) (hs : Sl w 3 (.slice a L.length c) (L.map Ln.row)) (hm : mayO s0 s1 s2 s3 s4 s5 tm L = true)
    (hc : Sl w 4 v (lc.map Con.row)) (hok : ∀ x ∈ lc, ConOk w s0 x) : Calls Tryd.prog 39 #[.pointer (some ⟨bo, 0, none⟩), .pointer (some ⟨bl, 0, none⟩)] w (RetB w false) := by
  have eg : ∀ args w, (callFunc 41 args).run Tryd.prog w = .ok (.enter 41 args) w := enters_of Tryd.func41 (by kernel_rfl) rfl
  have HM := Lib.hid (may_any s0 s1 s2 s3 s4 s5 tm L _ w hs)
  rw [hm] at HM
  have HC := Lib.hid (fun W (hb : Below w.heap.size w W) => containsN_any (fun _ => false) 41 #[.pointer (some ⟨bo, 0, none⟩)] lc v W (hc.below hb (Nat.le_refl _)) eg
    (fun W' x hx hb' => con_not (s0 := s0) (s1 := s1) (s2 := s2) (s3 := s3) (s4 := s4) (s5 := s5) (tm := tm) (L := L) (a := a) (c := c) x bo W' (blk (hb.trans (hb'.mono hb.size)) (lt_blk ho) ho) ((hok x hx).below (hb.trans (hb'.mono hb.size)))))
  have hf : lc.any (fun _ => false) = false := by simp
  rw [hf] at HC
  have HL := Lib.hid hl
  obtain ⟨a9, c9, rfl⟩ : ∃ a c, v = .slice a lc.length c := by simpa using hc.shape
  have x0 := cell_blk ho 0
  have x1 := cell_blk ho 1
  have x2 := cell_blk ho 2
  have x3 := cell_blk ho 3
  have x4 := cell_blk ho 4
  have x5 := cell_blk ho 5
  have x6 := cell_blk ho 6
  have x7 := cell_blk ho 7
  clear eg ho hl hs hm hc hok hf
  go_enter Tryd.func39, Tryd.ntmps39
  go_wp2_with (first
    | ((with_reducible refine HM.out.mono ?_); rintro e w1 ⟨rfl, hb1⟩; have HB1 := Lib.hid hb1; have y0 := (hb1.cell (World.block_lt_of_cell? w _ HL.out)).trans HL.out; clear hb1)
    | ((with_reducible refine (HC.out _ HB1.out).mono ?_); rintro e w2 ⟨rfl, hb2⟩; have HB2 := Lib.hid (HB1.out.trans (hb2.mono HB1.out.size)); clear hb2)
    | fail)
  go_ret
  exact retB rfl HB2.out
end
end Go.Proofs.YtnbhneeohkfocaaDoor.Sc
namespace Go.Proofs.YtnbhneeohkfocaaDoor.Sc
open Go Go.RowKit Go.ChangeShapes Go.WideShapes Go.ChangeAt
set_option maxRecDepth 100000

def Lt.cells (x : Lt) : Array Value := #[.string x.good, .int .i64 x.cnt]
def ltkCells (l : List Lt) : List Value := l.flatMap Lt.row
theorem ltk_one (x : Lt) : ∀ u ∈ x.cells.toList, u.oneCell' = true := by
  intro u hu
  simp only [Lt.cells, List.mem_cons, List.not_mem_nil, or_false] at hu
  rcases hu with rfl | rfl <;> rfl
theorem ltkCells_flat (l : List Lt) : ltkCells l = (l.map Lt.row).flatten := by rw [ltkCells, List.flatMap_def]
theorem ltk_rows (l : List Lt) : ∀ r ∈ l.map Lt.row, r.length = 2 := by
  intro r hr
  obtain ⟨b, -, rfl⟩ := List.mem_map.1 hr
  rfl
theorem ltkCells_append (a b : List Lt) : ltkCells (a ++ b) = ltkCells a ++ ltkCells b := by simp [ltkCells]
theorem own_ltks {w : World} {B n : Nat} {v : Value} {l : List Lt} (h : w.ownsRow B 59 2 v n (ltkCells l)) (hn : n = l.length) : Sl w 2 v (l.map Lt.row) := by
  rw [ltkCells_flat] at h
  exact own_sl h (by simpa using hn) (ltk_rows l)
theorem src_ltks {w : World} {v : Value} {l : List Lt} (h : Sl w 2 v (l.map Lt.row)) : Src w 2 v l.length (ltkCells l) := by
  have := h.src (ltk_rows l) (by decide)
  rw [ltkCells_flat]
  simpa using this
/-- What one in a row reads. -/
def LtAt (w : World) (b o : Nat) (x : Lt) : Prop := w.cell? ⟨b, o, none⟩ = some (.string x.good) ∧ w.cell? ⟨b, o + 1, none⟩ = some (.int .i64 x.cnt)
theorem ltk_at {w : World} {a : Option Addr} {n c : Nat} {l : List Lt} (h : Sl w 2 (.slice a n c) (l.map Lt.row)) {k : Nat} (hk : k < l.length) : ∃ b off, a = some ⟨b, off, none⟩ ∧ b < w.heap.size ∧ LtAt w b (off + k * 2) l[k] := by
  obtain ⟨b, off, e, -, hb, hc⟩ := h.at (i := k) (by simpa using hk)
  have hr := hc k l[k].row (by rw [List.getElem?_map, List.getElem?_eq_getElem hk]; rfl)
  exact ⟨b, off, e, hb, hr 0 _ rfl, hr 1 _ rfl⟩
theorem LtAt.below {w w' : World} {b o B : Nat} {x : Lt} (h : LtAt w b o x) (hb : b < B) (hw : Below B w w') : LtAt w' b o x := by
  obtain ⟨h0, h1⟩ := h
  exact ⟨(hw.cell (p := ⟨b, o, none⟩) hb).trans h0, (hw.cell (p := ⟨b, o + 1, none⟩) hb).trans h1⟩
theorem LtAt.keep {F : Nat → Prop} {w w' : World} {b o : Nat} {x : Lt} (h : LtAt w b o x) (hb : b < w.heap.size) (hn : ¬ F b) (hw : Keep F w w') : LtAt w' b o x := by
  obtain ⟨h0, h1⟩ := h
  exact ⟨(hw.cell (o := o) hb hn).trans h0, (hw.cell (o := o + 1) hb hn).trans h1⟩
/-- .. and in a box. -/
theorem ltk_box {w : World} {b : Nat} {x : Lt} {T : TypeId} (h : w.heap[b]? = some (.cells x.cells T (0, 0))) : w.cell? ⟨b, 0, none⟩ = some (.string x.good) ∧ w.cell? ⟨b, 1, none⟩ = some (.int .i64 x.cnt) := ⟨cell_blk h 0, cell_blk h 1⟩
theorem any_dropK {l : List Lt} {k : Nat} (h : k < l.length) (f : Lt → Bool) : (l.drop k).any f = (f l[k] || (l.drop (k + 1)).any f) := by rw [List.drop_eq_getElem_cons h, List.any_cons]
def IdxK (w : World) (b : Bool) (e : Ending) (w' : World) : Prop := ∃ i : Int, e = .returned (.int .i64 i) ∧ decide (0 ≤ i) = b ∧ Below w.heap.size w w'
set_option maxHeartbeats 4000000 in
theorem indexK_any (f : Lt → Bool) (g : Nat) (cb : Array Value) (l : List Lt) (v : Value) (w : World) (hs : Sl w 2 v (l.map Lt.row)) (eg : ∀ args w, (callFunc g args).run Tryd.prog w = .ok (.enter g args) w)
    (hcl : ∀ W (x : Lt), x ∈ l → Below w.heap.size w W → Calls Tryd.prog g (#[.agg x.cells] ++ cb) W (RetB W (f x))) :
    Calls Tryd.prog 65 #[v, .func (.func g) #[] cb] w (IdxK w (l.any f)) := by
  obtain ⟨a, c, rfl⟩ : ∃ a c, v = .slice a l.length c := by simpa using hs.shape
  have hll : l.length ≤ 9223372036854775807 := by have := hs.len_le; simp only [List.length_map, maxLen] at this; omega
  have HS := Lib.hid hs
  have HCL := Lib.hid hcl
  clear hs hcl
  go_enter Tryd.func65, Tryd.ntmps65
  go_wp2_with fail
  go_loopw [5, 8] (fun _ i wr => ∃ k : Nat, k ≤ l.length ∧ i = .int .i64 k ∧ l.any f = (l.drop k).any f ∧ Below w.heap.size w wr) (fun _ i _ => l.length - (intOf i).toNat)
  case atStart => exact ⟨0, Nat.zero_le _, rfl, rfl, Below.refl _ _⟩
  case round =>
    obtain ⟨k, hk, rfl, hrel, hbel⟩ := hrel
    have HBEL := Lib.hid hbel
    by_cases hlt : k < l.length
    · obtain ⟨b, off, rfl, hb, hp⟩ := ltk_at HS.out hlt
      obtain ⟨d0, d1⟩ := hp.below hb hbel
      rw [any_dropK hlt] at hrel
      have HC := Lib.hid (HCL.out wr l[k] (List.getElem_mem hlt) hbel)
      have tk : ((k : Nat) : Int) < (l.length : Int) := by omega
      generalize l[k] = x at *
      obtain ⟨x0, x1⟩ := x
      simp only at d0 d1
      clear hb hp hbel
      generalize hr : f ⟨x0, x1⟩ = r at *
      clear hr
      simp only [Lt.cells] at HC
      cases r
      · have HR := Lib.hid hrel
        clear hrel
        go_wp2_with (first
          | (go_at_fn g; refine HC.out.mono ?_; rintro e w2 ⟨rfl, hb2⟩; have HB2 := Lib.hid (HBEL.out.trans (hb2.mono HBEL.out.size)); clear hb2)
          | fail)
        go_roundw
        case rel => exact ⟨k + 1, by omega, by go_num, by rw [HR.out]; rfl, HB2.out⟩
        case measure => (simp [intOf]) <;> omega
      · have HR := Lib.hid hrel
        clear hrel
        go_wp2_with (first
          | (go_at_fn g; refine HC.out.mono ?_; rintro e w2 ⟨rfl, hb2⟩; have HB2 := Lib.hid (HBEL.out.trans (hb2.mono HBEL.out.size)); clear hb2)
          | fail)
        go_ret
        exact ⟨k, rfl, by rw [HR.out]; simp, HB2.out⟩
    · have HE : Hid (l.any f = false) := Lib.hid (by rw [hrel, List.drop_of_length_le (by omega)]; rfl)
      clear hrel hbel hk
      go_wp2_with fail
      go_ret
      exact ⟨-1, rfl, by rw [HE.out]; rfl, HBEL.out⟩
theorem containsK_any (f : Lt → Bool) (g : Nat) (cb : Array Value) (l : List Lt) (v : Value) (w : World) (hs : Sl w 2 v (l.map Lt.row)) (eg : ∀ args w, (callFunc g args).run Tryd.prog w = .ok (.enter g args) w)
    (hcl : ∀ W (x : Lt), x ∈ l → Below w.heap.size w W → Calls Tryd.prog g (#[.agg x.cells] ++ cb) W (RetB W (f x))) :
    Calls Tryd.prog 45 #[v, .func (.func g) #[] cb] w (RetB w (l.any f)) := by
  have HI := Lib.hid (indexK_any f g cb l v w hs eg hcl)
  clear hs hcl eg
  go_enter Tryd.func45, Tryd.ntmps45
  go_wp2_with (first
    | ((with_reducible refine HI.out.mono ?_); rintro e w2 ⟨i, rfl, hi, hb2⟩; have HB2 := Lib.hid hb2; have HQ := Lib.hid hi; clear hb2 hi)
    | fail)
  go_ret
  exact ⟨by rw [← HQ.out]; rfl, HB2.out⟩
theorem zeroLine (w : World) : (zeroValue 34).run Tryd.prog w = .ok (.agg #[.string ⟨#[]⟩, .int .i64 0, .int .i64 0]) w := by kernel_rfl
theorem get_entsL {L : List Ln} {x : Ln} (hn : (L.map Ln.good).Nodup) (hx : x ∈ L) : Mp.mget (entsL L) x.good = some (.agg x.cells) :=
  Mp.mget_of_mem (by rw [keys_entsL]; exact hn) (List.mem_map.2 ⟨x, hx, rfl⟩)
theorem lot_there (L : List Ln) (hn : (L.map Ln.good).Nodup) (x : Lt) (hx : ∃ y ∈ L, y.good = x.good) (bp bm : Nat) (w : World) (hp : w.cell? ⟨bp, 0, none⟩ = some (.map (some bm))) (hm : Mp.MapAt w bm (entsL L)) :
    Calls Tryd.prog 46 #[.agg x.cells, .pointer (some ⟨bp, 0, none⟩)] w (RetB w false) := by
  obtain ⟨xn, xc⟩ := x
  obtain ⟨y, hy, he⟩ := hx
  obtain ⟨yg, yc, yp⟩ := y
  simp only at he
  subst he
  have hg := get_entsL hn hy
  have HB := Lib.hid (one_below w (.cells #[.string yg, .int .i64 xc] 59))
  have HM := Lib.hid (hm.same (HB.out.block bm hm.lt))
  have HG : Hid (Mp.mget (entsL L) yg = some (.agg #[.string yg, .int .i64 yc, .int .i64 yp])) := Lib.hid hg
  have p0 := (HB.out.cell (World.block_lt_of_cell? w _ hp)).trans hp
  generalize entsL L = E at *
  simp only [Lt.cells]
  clear hg hp hm hy hn
  go_enter Tryd.func46, Tryd.ntmps46
  go_wp2_with (first
    | ((with_reducible refine Mp.wpl_got (b := bm) (l := E) (key := yg) (v := .agg #[.string yg, .int .i64 yc, .int .i64 yp]) ?_ ?_ ?_ Tryd.underlying63 Tryd.underlying9 (zeroLine _) HM.out HG.out ?_); rfl; rfl; rfl)
    | fail)
  go_ret
  exact retB rfl (HB.out.trans ((one_below _ _).mono HB.out.size))
end Go.Proofs.YtnbhneeohkfocaaDoor.Sc
namespace Go.Proofs.YtnbhneeohkfocaaDoor.Sc
open Go Go.RowKit Go.ChangeShapes Go.WideShapes Go.ChangeAt
set_option maxRecDepth 100000

/-- A consignment whose goods are all the order's. -/
def ConIn (W : World) (L : List Ln) (x : Con) : Prop := ∃ l : List Lt, Sl W 2 x.lots (l.map Lt.row) ∧ ∀ y ∈ l, ∃ z ∈ L, z.good = y.good
theorem ConIn.below {W W' : World} {L : List Ln} {x : Con} (h : ConIn W L x) (hb : Below W.heap.size W W') : ConIn W' L x := by
  obtain ⟨l, h2, h3⟩ := h
  exact ⟨l, h2.below hb (Nat.le_refl _), h3⟩
theorem con_there (L : List Ln) (hn : (L.map Ln.good).Nodup) (x : Con) (bp bm : Nat) (w : World) (hp : w.cell? ⟨bp, 0, none⟩ = some (.map (some bm))) (hm : Mp.MapAt w bm (entsL L)) (hx : ConIn w L x) :
    Calls Tryd.prog 44 #[.agg x.cells, .pointer (some ⟨bp, 0, none⟩)] w (RetB w false) := by
  have eg : ∀ args w, (callFunc 46 args).run Tryd.prog w = .ok (.enter 46 args) w := enters_of Tryd.func46 (by kernel_rfl) rfl
  obtain ⟨xn, xm, xl, xv⟩ := x
  obtain ⟨l, h2, h3⟩ := hx
  simp only at h2
  have HB := Lib.hid (one_below w (.cells #[.string xn, .int .i64 xm, .int .i64 xl, xv] 43))
  have HC := Lib.hid (containsK_any (fun _ => false) 46 #[.pointer (some ⟨bp, 0, none⟩)] l xv _ (h2.below HB.out (Nat.le_refl _)) eg
    (fun W' y hy hb' => lot_there L hn y (h3 y hy) bp bm W' (((HB.out.trans (hb'.mono HB.out.size)).cell (World.block_lt_of_cell? w _ hp)).trans hp) (hm.same ((HB.out.trans (hb'.mono HB.out.size)).block bm hm.lt))))
  have hf : l.any (fun _ => false) = false := by simp
  rw [hf] at HC
  obtain ⟨a9, c9, rfl⟩ : ∃ a c, xv = .slice a l.length c := by simpa using h2.shape
  simp only [Con.cells]
  clear eg hn hp hm h2 h3 hf
  go_enter Tryd.func44, Tryd.ntmps44
  go_wp2_with (first
    | ((with_reducible refine HC.out.mono ?_); rintro e w1 ⟨rfl, hb1⟩; have HB1 := Lib.hid (HB.out.trans (hb1.mono HB.out.size)); clear hb1)
    | fail)
  go_ret
  exact retB rfl HB1.out
theorem checks2_no (L : List Ln) (hn : (L.map Ln.good).Nodup) (lc : List Con) (v : Value) (bl bp bm : Nat) (w : World) (hl : w.cell? ⟨bl, 0, none⟩ = some v) (hp : w.cell? ⟨bp, 0, none⟩ = some (.map (some bm))) (hm : Mp.MapAt w bm (entsL L))
    (hc : Sl w 4 v (lc.map Con.row)) (hok : ∀ x ∈ lc, ConIn w L x) : Calls Tryd.prog 43 #[.pointer (some ⟨bl, 0, none⟩), .pointer (some ⟨bp, 0, none⟩)] w (RetB w false) := by
  have eg : ∀ args w, (callFunc 44 args).run Tryd.prog w = .ok (.enter 44 args) w := enters_of Tryd.func44 (by kernel_rfl) rfl
  have HC := Lib.hid (containsN_any (fun _ => false) 44 #[.pointer (some ⟨bp, 0, none⟩)] lc v w hc eg
    (fun W' x hx hb' => con_there L hn x bp bm W' ((hb'.cell (World.block_lt_of_cell? w _ hp)).trans hp) (hm.same (hb'.block bm hm.lt)) ((hok x hx).below hb')))
  have hf : lc.any (fun _ => false) = false := by simp
  rw [hf] at HC
  obtain ⟨a9, c9, rfl⟩ : ∃ a c, v = .slice a lc.length c := by simpa using hc.shape
  clear eg hn hp hm hc hok hf
  go_enter Tryd.func43, Tryd.ntmps43
  go_wp2_with (first
    | ((with_reducible refine HC.out.mono ?_); rintro e w1 ⟨rfl, hb1⟩; have HB1 := Lib.hid hb1; clear hb1)
    | fail)
  go_ret
  exact retB rfl HB1.out
end Go.Proofs.YtnbhneeohkfocaaDoor.Sc
namespace Go.Proofs.YtnbhneeohkfocaaDoor.Sc
open Go Go.RowKit Go.ChangeShapes Go.WideShapes Go.ChangeAt
set_option maxRecDepth 100000

set_option maxHeartbeats 8000000 in
theorem checks_none (s0 s1 s2 s3 s4 s5 : ByteArray) (tm : Int) (L : List Ln) (a : Option Addr) (c : Nat) (lc : List Con) (a9 : Option Addr) (c9 : Nat) (w : World) (hs : Sl w 3 (.slice a L.length c) (L.map Ln.row)) (hm : mayO s0 s1 s2 s3 s4 s5 tm L = true)
    (hc : Sl w 4 (.slice a9 lc.length c9) (lc.map Con.row)) (hok : ∀ x ∈ lc, ConOk w s0 x ∧ ConIn w L x) : Calls Tryd.prog 24 #[.agg #[.string s0, .string s1, .string s2, .string s3, .string s4, .string s5, .int .i64 tm, .slice a L.length c], .slice a9 lc.length c9] w (Ret w (.int .i64 0)) := by
  obtain ⟨hlo, -⟩ := mayO_ok hm
  obtain ⟨w2, hw2⟩ : ∃ W, (w.alloc (.cells #[.string s0, .string s1, .string s2, .string s3, .string s4, .string s5, .int .i64 tm, .slice a L.length c] 24)).alloc (.cells #[.slice a9 lc.length c9] 36) = W := ⟨_, rfl⟩
  have hb1 := one_below w (.cells #[.string s0, .string s1, .string s2, .string s3, .string s4, .string s5, .int .i64 tm, .slice a L.length c] 24)
  have hb2 : Below w.heap.size w w2 := hw2 ▸ hb1.trans ((one_below _ _).mono hb1.size)
  have hxo : w2.heap[w.heap.size]? = some (.cells #[.string s0, .string s1, .string s2, .string s3, .string s4, .string s5, .int .i64 tm, .slice a L.length c] 24 (0, 0)) := by
    rw [← hw2]; exact blk (one_below _ _) (by simp) (heap_alloc_new w _)
  have hxl : w2.heap[w.heap.size + 1]? = some (.cells #[.slice a9 lc.length c9] 36 (0, 0)) := by
    have := heap_alloc_new (w.alloc (.cells #[.string s0, .string s1, .string s2, .string s3, .string s4, .string s5, .int .i64 tm, .slice a L.length c] 24)) (.cells #[.slice a9 lc.length c9] 36)
    rw [← hw2]; simpa using this
  have HB2 := Lib.hid hb2
  have HXO := Lib.hid hxo
  have HXL := Lib.hid hxl
  have HBG := Lib.hid (byGoodO_any s0 s1 s2 s3 s4 s5 tm L _ w2 (hs.below hb2 (Nat.le_refl _)) hlo)
  have HW2 := Lib.hid hw2
  have x0 := cell_blk hxo 0
  have x1 := cell_blk hxo 1
  have x2 := cell_blk hxo 2
  have x3 := cell_blk hxo 3
  have x4 := cell_blk hxo 4
  have x5 := cell_blk hxo 5
  have x6 := cell_blk hxo 6
  have x7 := cell_blk hxo 7
  clear hb1 hb2 hxo hxl hw2
  go_enter Tryd.func24, Tryd.ntmps24
  go_upto_region 1 with fail
  rw [HW2.out]
  go_upto_region 2 with (first
    | ((with_reducible refine HBG.out.mono ?_); rintro e w3 ⟨bm, rfl, hbm, hmp, hb3⟩; have HB3 := Lib.hid hb3; have HMP := Lib.hid hmp; clear hb3 hmp hbm)
    | fail)
  obtain ⟨w5, hw5⟩ : ∃ W, (w3.alloc (.cells #[.map (some bm)] 63)).alloc (.cells #[.int .i64 1, .func (.func 39) #[] #[.pointer (some ⟨w.heap.size, 0, none⟩), .pointer (some ⟨w.heap.size + 1, 0, none⟩)], .int .i64 4, .func (.func 43) #[] #[.pointer (some ⟨w.heap.size + 1, 0, none⟩), .pointer (some ⟨w3.heap.size, 0, none⟩)]] 54) = W := ⟨_, rfl⟩
  have hb4 := one_below w3 (.cells #[.map (some bm)] 63)
  have hb5 : Below w3.heap.size w3 w5 := hw5 ▸ hb4.trans ((one_below _ _).mono hb4.size)
  have hp4 : w5.heap[w3.heap.size]? = some (.cells #[.map (some bm)] 63 (0, 0)) := by
    rw [← hw5]; exact blk (one_below _ _) (by simp) (heap_alloc_new w3 _)
  have hck : w5.heap[w3.heap.size + 1]? = some (.cells #[.int .i64 1, .func (.func 39) #[] #[.pointer (some ⟨w.heap.size, 0, none⟩), .pointer (some ⟨w.heap.size + 1, 0, none⟩)], .int .i64 4, .func (.func 43) #[] #[.pointer (some ⟨w.heap.size + 1, 0, none⟩), .pointer (some ⟨w3.heap.size, 0, none⟩)]] 54 (0, 0)) := by
    have := heap_alloc_new (w3.alloc (.cells #[.map (some bm)] 63)) (.cells #[.int .i64 1, .func (.func 39) #[] #[.pointer (some ⟨w.heap.size, 0, none⟩), .pointer (some ⟨w.heap.size + 1, 0, none⟩)], .int .i64 4, .func (.func 43) #[] #[.pointer (some ⟨w.heap.size + 1, 0, none⟩), .pointer (some ⟨w3.heap.size, 0, none⟩)]] 54)
    rw [← hw5]; simpa using this
  have hb25 : Below w2.heap.size w2 w5 := HB3.out.trans (hb5.mono HB3.out.size)
  have hb05 : Below w.heap.size w w5 := HB2.out.trans (hb25.mono HB2.out.size)
  have HB05 := Lib.hid hb05
  have hsl : Sl w5 2 (.slice (some ⟨w3.heap.size + 1, 0, none⟩) 2 2) ([(⟨1, 39, #[.pointer (some ⟨w.heap.size, 0, none⟩), .pointer (some ⟨w.heap.size + 1, 0, none⟩)]⟩ : Chk), ⟨4, 43, #[.pointer (some ⟨w.heap.size + 1, 0, none⟩), .pointer (some ⟨w3.heap.size, 0, none⟩)]⟩].map Chk.row) := by
    refine .inr ⟨w3.heap.size + 1, 0, 2, rfl, lt_blk hck, Nat.le_refl _, by decide, fun i r hi j u hj => ?_⟩
    match i, hi with
    | 0, hi =>
      cases hi
      match j, hj with
      | 0, hj => cases hj; exact cell_blk hck 0
      | 1, hj => cases hj; exact cell_blk hck 1
      | j + 2, hj => cases hj
    | 1, hi =>
      cases hi
      match j, hj with
      | 0, hj => cases hj; exact cell_blk hck 2
      | 1, hj => cases hj; exact cell_blk hck 3
      | j + 2, hj => cases hj
    | i + 2, hi => cases hi
  have HF := Lib.hid (first_none _ _ w5 hsl (by
    intro x hx
    simp only [List.mem_cons, List.not_mem_nil, or_false] at hx
    rcases hx with rfl | rfl
    · exact enters_of Tryd.func39 (by kernel_rfl) rfl
    · exact enters_of Tryd.func43 (by kernel_rfl) rfl) (by
    intro x hx W hW
    have hb0 := hb05.trans (hW.mono hb05.size)
    simp only [List.mem_cons, List.not_mem_nil, or_false] at hx
    rcases hx with rfl | rfl
    · exact checks1_no (s0 := s0) (s1 := s1) (s2 := s2) (s3 := s3) (s4 := s4) (s5 := s5) (tm := tm) (L := L) (a := a) (c := c) lc _ w.heap.size (w.heap.size + 1) W (blk hW (Nat.lt_of_lt_of_le (lt_blk HXO.out) hb25.size) ((hb25.block _ (lt_blk HXO.out)).trans HXO.out)) (cell_blk (blk hW (Nat.lt_of_lt_of_le (lt_blk HXL.out) hb25.size) ((hb25.block _ (lt_blk HXL.out)).trans HXL.out)) 0) (hs.below hb0 (Nat.le_refl _)) hm (hc.below hb0 (Nat.le_refl _)) (fun x hx => (hok x hx).1.below hb0)
    · exact checks2_no L hlo.nd lc _ (w.heap.size + 1) w3.heap.size bm W (cell_blk (blk hW (Nat.lt_of_lt_of_le (lt_blk HXL.out) hb25.size) ((hb25.block _ (lt_blk HXL.out)).trans HXL.out)) 0) (cell_blk (blk hW (lt_blk hp4) hp4) 0) ((HMP.out.same (hb5.block bm HMP.out.lt)).same (hW.block bm (Nat.lt_of_lt_of_le HMP.out.lt hb5.size))) (hc.below hb0 (Nat.le_refl _)) (fun x hx => (hok x hx).2.below hb0)))
  have HW5 := Lib.hid hw5
  clear hs hm hc hok hlo hb4 hb5 hp4 hck hb25 hb05 hsl hw5 x0 x1 x2 x3 x4 x5 x6 x7
  go_wp2_with (first
    | (rw [HW5.out]; (with_reducible refine HF.out.mono ?_); rintro e w6 ⟨rfl, hb6⟩; have HB6 := Lib.hid (HB05.out.trans (hb6.mono HB05.out.size)); clear hb6)
    | fail)
  go_ret
  exact ⟨rfl, HB6.out⟩
end Go.Proofs.YtnbhneeohkfocaaDoor.Sc
namespace Go.Proofs.YtnbhneeohkfocaaDoor.Sc
open Go Go.RowKit Go.ChangeShapes Go.WideShapes Go.ChangeAt
set_option maxRecDepth 100000

/-- The price of a good. -/
def prcO (L : List Ln) (g : ByteArray) : Int := match L.find? fun z => decide (z.good = g) with | some z => z.price | none => 0
def valO (L : List Ln) : List Lt → Int
  | [] => 0
  | y :: r => y.cnt * prcO L y.good + valO L r
theorem valO_app (L : List Ln) (a b : List Lt) : valO L (a ++ b) = valO L a + valO L b := by
  induction a with
  | nil => simp [valO]
  | cons x r ih => rw [List.cons_append, valO, valO, ih]; omega
theorem prcO_of {L : List Ln} (hn : (L.map Ln.good).Nodup) {z : Ln} (hz : z ∈ L) : prcO L z.good = z.price := by
  unfold prcO
  have h : L.find? (fun y => decide (y.good = z.good)) = some z := by
    induction L with
    | nil => cases hz
    | cons x r ih =>
      rw [List.map_cons, List.nodup_cons] at hn
      rw [List.find?_cons]
      rcases List.mem_cons.1 hz with rfl | hz
      · simp
      · have hne : decide (x.good = z.good) = false := decide_eq_false (fun e => hn.1 (List.mem_map.2 ⟨z, hz, e.symm⟩))
        rw [hne]
        exact ih hn.2 hz
  rw [h]
end Go.Proofs.YtnbhneeohkfocaaDoor.Sc
