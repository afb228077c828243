/- Claimants: comparisons, by which one is better. -/
import Derived.Test.YtbigoifpfkdkjaaGreatRankB26
import Derived.Test.YtbigoifpfkdkjaaGreatMarkN
import Derived.Test.YtbigoifpfkdkjaaGreatBt
import Derived.OwnWalk
import Derived.WalkMore
import Derived.BigQuiet
import Derived.Shelf.Abstract
namespace Go.Proofs.YtbigoifpfkdkjaaGreat.Sc
open Go Go.RowKit Go.ChangeShapes Go.WideShapes Go.ChangeAt Go.Sort Go.Shelf
set_option maxRecDepth 100000

structure Clm where
  nm : ByteArray
  tg : ByteArray
  rt : Int
  dy : Int
  am : Int
def Clm.cells (x : Clm) : Array Value := #[.string x.nm, .string x.tg, .int .i64 x.rt, .int .i64 x.dy, .int .i64 x.am]
def Clm.row (x : Clm) : List Value := x.cells.toList
def clmCells (l : List Clm) : List Value := l.flatMap Clm.row
theorem infoClm : (Tryz.prog.info? 33).map (fun i => (i.zero, i.size, i.bytes)) = some (some (.agg #[.string ⟨#[]⟩, .string ⟨#[]⟩, .int .i64 0, .int .i64 0, .int .i64 0]), 5, 56) := by kernel_rfl
theorem clm_one (x : Clm) : ∀ u ∈ x.cells.toList, u.oneCell' = true := by
  intro u hu
  simp only [Clm.cells, List.mem_cons, List.not_mem_nil, or_false] at hu
  rcases hu with rfl | rfl | rfl | rfl | rfl <;> rfl
theorem clmCells_flat (l : List Clm) : clmCells l = (l.map Clm.row).flatten := by rw [clmCells, List.flatMap_def]
theorem clm_rows (l : List Clm) : ∀ r ∈ l.map Clm.row, r.length = 5 := by
  intro r hr
  obtain ⟨b, -, rfl⟩ := List.mem_map.1 hr
  rfl
theorem clmCells_append (a b : List Clm) : clmCells (a ++ b) = clmCells a ++ clmCells b := by simp [clmCells]
theorem own_clms {w : World} {B n : Nat} {v : Value} {l : List Clm} (h : w.ownsRow B 33 5 v n (clmCells l)) (hn : n = l.length) : Sl w 5 v (l.map Clm.row) := by
  rw [clmCells_flat] at h
  exact own_sl h (by simpa using hn) (clm_rows l)
theorem src_clms {w : World} {v : Value} {l : List Clm} (h : Sl w 5 v (l.map Clm.row)) : Src w 5 v l.length (clmCells l) := by
  have := h.src (clm_rows l) (by decide)
  rw [clmCells_flat]
  simpa using this
/-- What one in a row reads. -/
def ClmAt (w : World) (b o : Nat) (x : Clm) : Prop := w.cell? ⟨b, o, none⟩ = some (.string x.nm) ∧ w.cell? ⟨b, o + 1, none⟩ = some (.string x.tg) ∧ w.cell? ⟨b, o + 2, none⟩ = some (.int .i64 x.rt) ∧ w.cell? ⟨b, o + 3, none⟩ = some (.int .i64 x.dy) ∧ w.cell? ⟨b, o + 4, none⟩ = some (.int .i64 x.am)
theorem clm_at {w : World} {a : Option Addr} {n c : Nat} {l : List Clm} (h : Sl w 5 (.slice a n c) (l.map Clm.row)) {k : Nat} (hk : k < l.length) : ∃ b off, a = some ⟨b, off, none⟩ ∧ b < w.heap.size ∧ ClmAt w b (off + k * 5) l[k] := by
  obtain ⟨b, off, e, -, hb, hc⟩ := h.at (i := k) (by simpa using hk)
  have hr := hc k l[k].row (by rw [List.getElem?_map, List.getElem?_eq_getElem hk]; rfl)
  exact ⟨b, off, e, hb, hr 0 _ rfl, hr 1 _ rfl, hr 2 _ rfl, hr 3 _ rfl, hr 4 _ rfl⟩
theorem ClmAt.below {w w' : World} {b o B : Nat} {x : Clm} (h : ClmAt w b o x) (hb : b < B) (hw : Below B w w') : ClmAt w' b o x := by
  obtain ⟨h0, h1, h2, h3, h4⟩ := h
  exact ⟨(hw.cell (p := ⟨b, o, none⟩) hb).trans h0, (hw.cell (p := ⟨b, o + 1, none⟩) hb).trans h1, (hw.cell (p := ⟨b, o + 2, none⟩) hb).trans h2, (hw.cell (p := ⟨b, o + 3, none⟩) hb).trans h3, (hw.cell (p := ⟨b, o + 4, none⟩) hb).trans h4⟩
theorem ClmAt.keep {F : Nat → Prop} {w w' : World} {b o : Nat} {x : Clm} (h : ClmAt w b o x) (hb : b < w.heap.size) (hn : ¬ F b) (hw : Keep F w w') : ClmAt w' b o x := by
  obtain ⟨h0, h1, h2, h3, h4⟩ := h
  exact ⟨(hw.cell (o := o) hb hn).trans h0, (hw.cell (o := o + 1) hb hn).trans h1, (hw.cell (o := o + 2) hb hn).trans h2, (hw.cell (o := o + 3) hb hn).trans h3, (hw.cell (o := o + 4) hb hn).trans h4⟩
/-- .. and in a box. -/
theorem clm_box {w : World} {b : Nat} {x : Clm} {T : TypeId} (h : w.heap[b]? = some (.cells x.cells T (0, 0))) : w.cell? ⟨b, 0, none⟩ = some (.string x.nm) ∧ w.cell? ⟨b, 1, none⟩ = some (.string x.tg) ∧ w.cell? ⟨b, 2, none⟩ = some (.int .i64 x.rt) ∧ w.cell? ⟨b, 3, none⟩ = some (.int .i64 x.dy) ∧ w.cell? ⟨b, 4, none⟩ = some (.int .i64 x.am) := ⟨cell_blk h 0, cell_blk h 1, cell_blk h 2, cell_blk h 3, cell_blk h 4⟩
structure Awd where
  tg : ByteArray
  nm : ByteArray
def Awd.cells (x : Awd) : Array Value := #[.string x.tg, .string x.nm]
def Awd.row (x : Awd) : List Value := x.cells.toList
def awdCells (l : List Awd) : List Value := l.flatMap Awd.row
theorem infoAwd : (Tryz.prog.info? 40).map (fun i => (i.zero, i.size, i.bytes)) = some (some (.agg #[.string ⟨#[]⟩, .string ⟨#[]⟩]), 2, 32) := by kernel_rfl
theorem awd_one (x : Awd) : ∀ u ∈ x.cells.toList, u.oneCell' = true := by
  intro u hu
  simp only [Awd.cells, List.mem_cons, List.not_mem_nil, or_false] at hu
  rcases hu with rfl | rfl <;> rfl
theorem awdCells_flat (l : List Awd) : awdCells l = (l.map Awd.row).flatten := by rw [awdCells, List.flatMap_def]
theorem awd_rows (l : List Awd) : ∀ r ∈ l.map Awd.row, r.length = 2 := by
  intro r hr
  obtain ⟨b, -, rfl⟩ := List.mem_map.1 hr
  rfl
theorem awdCells_append (a b : List Awd) : awdCells (a ++ b) = awdCells a ++ awdCells b := by simp [awdCells]
theorem own_awds {w : World} {B n : Nat} {v : Value} {l : List Awd} (h : w.ownsRow B 40 2 v n (awdCells l)) (hn : n = l.length) : Sl w 2 v (l.map Awd.row) := by
  rw [awdCells_flat] at h
  exact own_sl h (by simpa using hn) (awd_rows l)
theorem src_awds {w : World} {v : Value} {l : List Awd} (h : Sl w 2 v (l.map Awd.row)) : Src w 2 v l.length (awdCells l) := by
  have := h.src (awd_rows l) (by decide)
  rw [awdCells_flat]
  simpa using this
/-- What one in a row reads. -/
def AwdAt (w : World) (b o : Nat) (x : Awd) : Prop := w.cell? ⟨b, o, none⟩ = some (.string x.tg) ∧ w.cell? ⟨b, o + 1, none⟩ = some (.string x.nm)
theorem awd_at {w : World} {a : Option Addr} {n c : Nat} {l : List Awd} (h : Sl w 2 (.slice a n c) (l.map Awd.row)) {k : Nat} (hk : k < l.length) : ∃ b off, a = some ⟨b, off, none⟩ ∧ b < w.heap.size ∧ AwdAt w b (off + k * 2) l[k] := by
  obtain ⟨b, off, e, -, hb, hc⟩ := h.at (i := k) (by simpa using hk)
  have hr := hc k l[k].row (by rw [List.getElem?_map, List.getElem?_eq_getElem hk]; rfl)
  exact ⟨b, off, e, hb, hr 0 _ rfl, hr 1 _ rfl⟩
theorem AwdAt.below {w w' : World} {b o B : Nat} {x : Awd} (h : AwdAt w b o x) (hb : b < B) (hw : Below B w w') : AwdAt w' b o x := by
  obtain ⟨h0, h1⟩ := h
  exact ⟨(hw.cell (p := ⟨b, o, none⟩) hb).trans h0, (hw.cell (p := ⟨b, o + 1, none⟩) hb).trans h1⟩
theorem AwdAt.keep {F : Nat → Prop} {w w' : World} {b o : Nat} {x : Awd} (h : AwdAt w b o x) (hb : b < w.heap.size) (hn : ¬ F b) (hw : Keep F w w') : AwdAt w' b o x := by
  obtain ⟨h0, h1⟩ := h
  exact ⟨(hw.cell (o := o) hb hn).trans h0, (hw.cell (o := o + 1) hb hn).trans h1⟩
/-- .. and in a box. -/
theorem awd_box {w : World} {b : Nat} {x : Awd} {T : TypeId} (h : w.heap[b]? = some (.cells x.cells T (0, 0))) : w.cell? ⟨b, 0, none⟩ = some (.string x.tg) ∧ w.cell? ⟨b, 1, none⟩ = some (.string x.nm) := ⟨cell_blk h 0, cell_blk h 1⟩
theorem any_dropT {l : List Clm} {k : Nat} (h : k < l.length) (f : Clm → Bool) : (l.drop k).any f = (f l[k] || (l.drop (k + 1)).any f) := by rw [List.drop_eq_getElem_cons h, List.any_cons]
def IdxT (w : World) (b : Bool) (e : Ending) (w' : World) : Prop := ∃ i : Int, e = .returned (.int .i64 i) ∧ decide (0 ≤ i) = b ∧ Below w.heap.size w w'
set_option maxHeartbeats 4000000 in
theorem indexT_any (f : Clm → Bool) (g : Nat) (cb : Array Value) (l : List Clm) (v : Value) (w : World) (hs : Sl w 5 v (l.map Clm.row)) (eg : ∀ args w, (callFunc g args).run Tryz.prog w = .ok (.enter g args) w)
    (hcl : ∀ W (x : Clm), x ∈ l → Below w.heap.size w W → Calls Tryz.prog g (#[.agg x.cells] ++ cb) W (RetB W (f x))) :
    Calls Tryz.prog 54 #[v, .func (.func g) #[] cb] w (IdxT w (l.any f)) := by
  obtain ⟨a, c, rfl⟩ : ∃ a c, v = .slice a l.length c := by simpa using hs.shape
  have hll : l.length ≤ 9223372036854775807 := by have := hs.len_le; simp only [List.length_map, maxLen] at this; omega
  have HS := Lib.hid hs
  have HCL := Lib.hid hcl
  clear hs hcl
  go_enter Tryz.func54, Tryz.ntmps54
  go_wp2_with fail
  go_loopw [5, 8] (fun _ i wr => ∃ k : Nat, k ≤ l.length ∧ i = .int .i64 k ∧ l.any f = (l.drop k).any f ∧ Below w.heap.size w wr) (fun _ i _ => l.length - (intOf i).toNat)
  case atStart => exact ⟨0, Nat.zero_le _, rfl, rfl, Below.refl _ _⟩
  case round =>
    obtain ⟨k, hk, rfl, hrel, hbel⟩ := hrel
    have HBEL := Lib.hid hbel
    by_cases hlt : k < l.length
    · obtain ⟨b, off, rfl, hb, hp⟩ := clm_at HS.out hlt
      obtain ⟨d0, d1, d2, d3, d4⟩ := hp.below hb hbel
      rw [any_dropT hlt] at hrel
      have HC := Lib.hid (HCL.out wr l[k] (List.getElem_mem hlt) hbel)
      have tk : ((k : Nat) : Int) < (l.length : Int) := by omega
      generalize l[k] = x at *
      obtain ⟨x0, x1, x2, x3, x4⟩ := x
      simp only at d0 d1 d2 d3 d4
      clear hb hp hbel
      generalize hr : f ⟨x0, x1, x2, x3, x4⟩ = r at *
      clear hr
      simp only [Clm.cells] at HC
      cases r
      · have HR := Lib.hid hrel
        clear hrel
        go_wp2_with (first
          | (go_at_fn g; refine HC.out.mono ?_; rintro e w2 ⟨rfl, hb2⟩; have HB2 := Lib.hid (HBEL.out.trans (hb2.mono HBEL.out.size)); clear hb2)
          | fail)
        go_roundw
        case rel => exact ⟨k + 1, by omega, by go_num, by rw [HR.out]; rfl, HB2.out⟩
        case measure => (simp [intOf]) <;> omega
      · have HR := Lib.hid hrel
        clear hrel
        go_wp2_with (first
          | (go_at_fn g; refine HC.out.mono ?_; rintro e w2 ⟨rfl, hb2⟩; have HB2 := Lib.hid (HBEL.out.trans (hb2.mono HBEL.out.size)); clear hb2)
          | fail)
        go_ret
        exact ⟨k, rfl, by rw [HR.out]; simp, HB2.out⟩
    · have HE : Hid (l.any f = false) := Lib.hid (by rw [hrel, List.drop_of_length_le (by omega)]; rfl)
      clear hrel hbel hk
      go_wp2_with fail
      go_ret
      exact ⟨-1, rfl, by rw [HE.out]; rfl, HBEL.out⟩
theorem containsT_any (f : Clm → Bool) (g : Nat) (cb : Array Value) (l : List Clm) (v : Value) (w : World) (hs : Sl w 5 v (l.map Clm.row)) (eg : ∀ args w, (callFunc g args).run Tryz.prog w = .ok (.enter g args) w)
    (hcl : ∀ W (x : Clm), x ∈ l → Below w.heap.size w W → Calls Tryz.prog g (#[.agg x.cells] ++ cb) W (RetB W (f x))) :
    Calls Tryz.prog 35 #[v, .func (.func g) #[] cb] w (RetB w (l.any f)) := by
  have HI := Lib.hid (indexT_any f g cb l v w hs eg hcl)
  clear hs hcl eg
  go_enter Tryz.func35, Tryz.ntmps35
  go_wp2_with (first
    | ((with_reducible refine HI.out.mono ?_); rintro e w2 ⟨i, rfl, hi, hb2⟩; have HB2 := Lib.hid hb2; have HQ := Lib.hid hi; clear hb2 hi)
    | fail)
  go_ret
  exact ⟨by rw [← HQ.out]; rfl, HB2.out⟩
def cmpS (a b : ByteArray) : Int := if bt a < bt b then -1 else if bt b < bt a then 1 else 0
theorem less_bt (a b : ByteArray) : Op.bytesLess a.toList b.toList = decide (bt a < bt b) := by rw [bytesLess_eq, ByteArray.toList_eq, ByteArray.toList_eq]; rfl
theorem nan_any (a : ByteArray) (w : World) : Calls Tryz.prog 77 #[.string a] w (fun e w' => e = .returned (.bool false) ∧ w' = w) := by
  have t1 : (a.toList != a.toList) = false := by simp
  go_enter Tryz.func77, Tryz.ntmps77
  go_wp2
  go_ret
  exact ⟨by simp, rfl⟩
set_option maxHeartbeats 2000000 in
theorem compare_any (a b : ByteArray) (w : World) : Calls Tryz.prog 48 #[.string a, .string b] w (fun e w' => e = .returned (.int .i64 (cmpS a b)) ∧ w' = w) := by
  have HN := Lib.hid (fun a W => nan_any a W)
  by_cases h1 : bt a < bt b
  · have t1 : Op.bytesLess a.toList b.toList = true := by rw [less_bt, decide_eq_true h1]
    have HQ : Hid (cmpS a b = -1) := Lib.hid (if_pos h1)
    clear h1
    go_enter Tryz.func48, Tryz.ntmps48
    go_wp2_with (first | ((with_reducible refine (HN.out _ _).mono ?_); rintro e w2 ⟨rfl, rfl⟩) | fail)
    go_ret
    exact ⟨by rw [HQ.out]; rfl, rfl⟩
  · have t1 : Op.bytesLess a.toList b.toList = false := by rw [less_bt, decide_eq_false h1]
    by_cases h2 : bt b < bt a
    · have t2 : (a.toList == b.toList) = false := by
        have hne : ¬ a.toList = b.toList := fun e => by
          rw [ByteArray.toList_eq, ByteArray.toList_eq] at e
          have e' : bt a = bt b := e
          rw [e'] at h2
          exact List.lt_irrefl _ h2
        simp [hne]
      have HQ : Hid (cmpS a b = 1) := Lib.hid (by rw [cmpS, if_neg h1, if_pos h2])
      clear h1 h2
      go_enter Tryz.func48, Tryz.ntmps48
      go_wp2_with (first | ((with_reducible refine (HN.out _ _).mono ?_); rintro e w2 ⟨rfl, rfl⟩) | fail)
      go_ret
      exact ⟨by rw [HQ.out]; rfl, rfl⟩
    · have t2 : (a.toList == b.toList) = true := by
        have e : bt a = bt b := List.le_antisymm (List.not_lt.1 h2) (List.not_lt.1 h1)
        have e' : a = b := bt_inj e
        simp [e']
      have HQ : Hid (cmpS a b = 0) := Lib.hid (by rw [cmpS, if_neg h1, if_neg h2])
      clear h1 h2
      go_enter Tryz.func48, Tryz.ntmps48
      go_wp2_with (first | ((with_reducible refine (HN.out _ _).mono ?_); rintro e w2 ⟨rfl, rfl⟩) | fail)
      go_ret
      exact ⟨by rw [HQ.out]; rfl, rfl⟩
theorem nanL_any (a : Int) (w : World) : Calls Tryz.prog 79 #[.int .i64 a] w (fun e w' => e = .returned (.bool false) ∧ w' = w) := by
  have t1 : (a != a) = false := by simp
  go_enter Tryz.func79, Tryz.ntmps79
  go_wp2
  go_ret
  exact ⟨by simp, rfl⟩
set_option maxHeartbeats 2000000 in
theorem compareL_any (a b : Int) (w : World) : Calls Tryz.prog 59 #[.int .i64 a, .int .i64 b] w (fun e w' => e = .returned (.int .i64 (cmpI a b)) ∧ w' = w) := by
  have HN := Lib.hid (fun a W => nanL_any a W)
  by_cases h1 : a < b
  · have t1 : decide (a < b) = true := decide_eq_true h1
    have HQ : Hid (cmpI a b = -1) := Lib.hid (if_pos h1)
    clear h1
    go_enter Tryz.func59, Tryz.ntmps59
    go_wp2_with (first | ((with_reducible refine (HN.out _ _).mono ?_); rintro e w2 ⟨rfl, rfl⟩) | fail)
    go_ret
    exact ⟨by rw [HQ.out]; rfl, rfl⟩
  · have t1 : decide (a < b) = false := decide_eq_false h1
    by_cases h2 : b < a
    · have t2 : (a == b) = false := by simp; omega
      have t3 : decide (b < a) = true := decide_eq_true h2
      have HQ : Hid (cmpI a b = 1) := Lib.hid (by rw [cmpI, if_neg h1, if_pos h2])
      clear h1 h2
      go_enter Tryz.func59, Tryz.ntmps59
      go_wp2_with (first | ((with_reducible refine (HN.out _ _).mono ?_); rintro e w2 ⟨rfl, rfl⟩) | fail)
      go_ret
      exact ⟨by rw [HQ.out]; rfl, rfl⟩
    · have t2 : decide (b < a) = false := decide_eq_false h2
      have HQ : Hid (cmpI a b = 0) := Lib.hid (by rw [cmpI, if_neg h1, if_neg h2])
      clear h1 h2
      go_enter Tryz.func59, Tryz.ntmps59
      go_wp2_with (first | ((with_reducible refine (HN.out _ _).mono ?_); rintro e w2 ⟨rfl, rfl⟩) | fail)
      go_ret
      exact ⟨by rw [HQ.out]; rfl, rfl⟩
set_option maxHeartbeats 2000000 in
theorem judge1_any (x y : Clm) (W : World) : Calls Tryz.prog 55 #[.agg x.cells, .agg y.cells] W (fun e w' => e = .returned (.int .i64 (cmpI x.rt y.rt)) ∧ ∃ os', w' = Go.Sort.grow W os') := by
  obtain ⟨x0, x1, x2, x3, x4⟩ := x
  obtain ⟨y0, y1, y2, y3, y4⟩ := y
  simp only [Clm.cells]
  have HC := Lib.hid (fun W => compareI_any x2 y2 W)
  generalize cmpI x2 y2 = r at HC ⊢
  go_enter Tryz.func55, Tryz.ntmps55
  go_wp2_with (first | ((with_reducible refine (HC.out _).mono ?_); rintro e w2 ⟨rfl, rfl⟩) | fail)
  go_ret
  exact ⟨rfl, _, by rw [alloc_eq_grow, alloc_eq_grow, grow_grow]⟩
set_option maxHeartbeats 2000000 in
theorem judge2_any (x y : Clm) (W : World) : Calls Tryz.prog 56 #[.agg x.cells, .agg y.cells] W (fun e w' => e = .returned (.int .i64 (cmpI x.dy y.dy)) ∧ ∃ os', w' = Go.Sort.grow W os') := by
  obtain ⟨x0, x1, x2, x3, x4⟩ := x
  obtain ⟨y0, y1, y2, y3, y4⟩ := y
  simp only [Clm.cells]
  have HC := Lib.hid (fun W => compareI_any x3 y3 W)
  generalize cmpI x3 y3 = r at HC ⊢
  go_enter Tryz.func56, Tryz.ntmps56
  go_wp2_with (first | ((with_reducible refine (HC.out _).mono ?_); rintro e w2 ⟨rfl, rfl⟩) | fail)
  go_ret
  exact ⟨rfl, _, by rw [alloc_eq_grow, alloc_eq_grow, grow_grow]⟩
set_option maxHeartbeats 2000000 in
theorem judge3_any (x y : Clm) (W : World) : Calls Tryz.prog 57 #[.agg x.cells, .agg y.cells] W (fun e w' => e = .returned (.int .i64 (cmpS x.nm y.nm)) ∧ ∃ os', w' = Go.Sort.grow W os') := by
  obtain ⟨x0, x1, x2, x3, x4⟩ := x
  obtain ⟨y0, y1, y2, y3, y4⟩ := y
  simp only [Clm.cells]
  have HC := Lib.hid (fun W => compare_any x0 y0 W)
  generalize cmpS x0 y0 = r at HC ⊢
  go_enter Tryz.func57, Tryz.ntmps57
  go_wp2_with (first | ((with_reducible refine (HC.out _).mono ?_); rintro e w2 ⟨rfl, rfl⟩) | fail)
  go_ret
  exact ⟨rfl, _, by rw [alloc_eq_grow, alloc_eq_grow, grow_grow]⟩
set_option maxHeartbeats 2000000 in
theorem judge4_any (x y : Clm) (W : World) : Calls Tryz.prog 58 #[.agg x.cells, .agg y.cells] W (fun e w' => e = .returned (.int .i64 (cmpI y.am x.am)) ∧ ∃ os', w' = Go.Sort.grow W os') := by
  obtain ⟨x0, x1, x2, x3, x4⟩ := x
  obtain ⟨y0, y1, y2, y3, y4⟩ := y
  simp only [Clm.cells]
  have HC := Lib.hid (fun W => compareL_any y4 x4 W)
  generalize cmpI y4 x4 = r at HC ⊢
  go_enter Tryz.func58, Tryz.ntmps58
  go_wp2_with (first | ((with_reducible refine (HC.out _).mono ?_); rintro e w2 ⟨rfl, rfl⟩) | fail)
  go_ret
  exact ⟨rfl, _, by rw [alloc_eq_grow, alloc_eq_grow, grow_grow]⟩
set_option maxHeartbeats 2000000 in
theorem judge5_any (x y : Clm) (W : World) : Calls Tryz.prog 60 #[.agg x.cells, .agg y.cells] W (fun e w' => e = .returned (.int .i64 (cmpS x.tg y.tg)) ∧ ∃ os', w' = Go.Sort.grow W os') := by
  obtain ⟨x0, x1, x2, x3, x4⟩ := x
  obtain ⟨y0, y1, y2, y3, y4⟩ := y
  simp only [Clm.cells]
  have HC := Lib.hid (fun W => compare_any x1 y1 W)
  generalize cmpS x1 y1 = r at HC ⊢
  go_enter Tryz.func60, Tryz.ntmps60
  go_wp2_with (first | ((with_reducible refine (HC.out _).mono ?_); rintro e w2 ⟨rfl, rfl⟩) | fail)
  go_ret
  exact ⟨rfl, _, by rw [alloc_eq_grow, alloc_eq_grow, grow_grow]⟩
end Go.Proofs.YtbigoifpfkdkjaaGreat.Sc
