/- A debt there and one back: which debts may be. -/
import Derived.Test.YtbigoifpfkdkjaaGreatNetA4
import Derived.Test.YtbigoifpfkdkjaaGreatMarkN
import Derived.Test.YtbigoifpfkdkjaaGreatStg
import Derived.OwnWalk
import Derived.WalkMore
import Derived.BigQuiet
import Derived.Shelf.Abstract
namespace Go.Proofs.YtbigoifpfkdkjaaGreat.Sc
open Go Go.RowKit Go.ChangeShapes Go.WideShapes Go.ChangeAt
set_option maxRecDepth 100000

structure Db where
  frm : ByteArray
  dst : ByteArray
  cur : ByteArray
  amt : Int
def Db.cells (x : Db) : Array Value := #[.string x.frm, .string x.dst, .string x.cur, .int .i64 x.amt]
def Db.row (x : Db) : List Value := x.cells.toList
def dbCells (l : List Db) : List Value := l.flatMap Db.row
theorem infoDb : (Tryz.prog.info? 46).map (fun i => (i.zero, i.size, i.bytes)) = some (some (.agg #[.string ⟨#[]⟩, .string ⟨#[]⟩, .string ⟨#[]⟩, .int .i64 0]), 4, 56) := by kernel_rfl
theorem db_one (x : Db) : ∀ u ∈ x.cells.toList, u.oneCell' = true := by
  intro u hu
  simp only [Db.cells, List.mem_cons, List.not_mem_nil, or_false] at hu
  rcases hu with rfl | rfl | rfl | rfl <;> rfl
theorem dbCells_flat (l : List Db) : dbCells l = (l.map Db.row).flatten := by rw [dbCells, List.flatMap_def]
theorem db_rows (l : List Db) : ∀ r ∈ l.map Db.row, r.length = 4 := by
  intro r hr
  obtain ⟨b, -, rfl⟩ := List.mem_map.1 hr
  rfl
theorem dbCells_append (a b : List Db) : dbCells (a ++ b) = dbCells a ++ dbCells b := by simp [dbCells]
theorem own_dbs {w : World} {B n : Nat} {v : Value} {l : List Db} (h : w.ownsRow B 46 4 v n (dbCells l)) (hn : n = l.length) : Sl w 4 v (l.map Db.row) := by
  rw [dbCells_flat] at h
  exact own_sl h (by simpa using hn) (db_rows l)
theorem src_dbs {w : World} {v : Value} {l : List Db} (h : Sl w 4 v (l.map Db.row)) : Src w 4 v l.length (dbCells l) := by
  have := h.src (db_rows l) (by decide)
  rw [dbCells_flat]
  simpa using this
/-- What one in a row reads. -/
def DbAt (w : World) (b o : Nat) (x : Db) : Prop := w.cell? ⟨b, o, none⟩ = some (.string x.frm) ∧ w.cell? ⟨b, o + 1, none⟩ = some (.string x.dst) ∧ w.cell? ⟨b, o + 2, none⟩ = some (.string x.cur) ∧ w.cell? ⟨b, o + 3, none⟩ = some (.int .i64 x.amt)
theorem db_at {w : World} {a : Option Addr} {n c : Nat} {l : List Db} (h : Sl w 4 (.slice a n c) (l.map Db.row)) {k : Nat} (hk : k < l.length) : ∃ b off, a = some ⟨b, off, none⟩ ∧ b < w.heap.size ∧ DbAt w b (off + k * 4) l[k] := by
  obtain ⟨b, off, e, -, hb, hc⟩ := h.at (i := k) (by simpa using hk)
  have hr := hc k l[k].row (by rw [List.getElem?_map, List.getElem?_eq_getElem hk]; rfl)
  exact ⟨b, off, e, hb, hr 0 _ rfl, hr 1 _ rfl, hr 2 _ rfl, hr 3 _ rfl⟩
theorem DbAt.below {w w' : World} {b o B : Nat} {x : Db} (h : DbAt w b o x) (hb : b < B) (hw : Below B w w') : DbAt w' b o x := by
  obtain ⟨h0, h1, h2, h3⟩ := h
  exact ⟨(hw.cell (p := ⟨b, o, none⟩) hb).trans h0, (hw.cell (p := ⟨b, o + 1, none⟩) hb).trans h1, (hw.cell (p := ⟨b, o + 2, none⟩) hb).trans h2, (hw.cell (p := ⟨b, o + 3, none⟩) hb).trans h3⟩
theorem DbAt.keep {F : Nat → Prop} {w w' : World} {b o : Nat} {x : Db} (h : DbAt w b o x) (hb : b < w.heap.size) (hn : ¬ F b) (hw : Keep F w w') : DbAt w' b o x := by
  obtain ⟨h0, h1, h2, h3⟩ := h
  exact ⟨(hw.cell (o := o) hb hn).trans h0, (hw.cell (o := o + 1) hb hn).trans h1, (hw.cell (o := o + 2) hb hn).trans h2, (hw.cell (o := o + 3) hb hn).trans h3⟩
/-- .. and in a box. -/
theorem db_box {w : World} {b : Nat} {x : Db} {T : TypeId} (h : w.heap[b]? = some (.cells x.cells T (0, 0))) : w.cell? ⟨b, 0, none⟩ = some (.string x.frm) ∧ w.cell? ⟨b, 1, none⟩ = some (.string x.dst) ∧ w.cell? ⟨b, 2, none⟩ = some (.string x.cur) ∧ w.cell? ⟨b, 3, none⟩ = some (.int .i64 x.amt) := ⟨cell_blk h 0, cell_blk h 1, cell_blk h 2, cell_blk h 3⟩
theorem any_dropD {l : List Db} {k : Nat} (h : k < l.length) (f : Db → Bool) : (l.drop k).any f = (f l[k] || (l.drop (k + 1)).any f) := by rw [List.drop_eq_getElem_cons h, List.any_cons]
def IdxD (w : World) (b : Bool) (e : Ending) (w' : World) : Prop := ∃ i : Int, e = .returned (.int .i64 i) ∧ decide (0 ≤ i) = b ∧ Below w.heap.size w w'
set_option maxHeartbeats 4000000 in
theorem indexD_any (f : Db → Bool) (g : Nat) (cb : Array Value) (l : List Db) (v : Value) (w : World) (hs : Sl w 4 v (l.map Db.row)) (eg : ∀ args w, (callFunc g args).run Tryz.prog w = .ok (.enter g args) w)
    (hcl : ∀ W (x : Db), x ∈ l → Below w.heap.size w W → Calls Tryz.prog g (#[.agg x.cells] ++ cb) W (RetB W (f x))) :
    Calls Tryz.prog 94 #[v, .func (.func g) #[] cb] w (IdxD w (l.any f)) := by
  obtain ⟨a, c, rfl⟩ : ∃ a c, v = .slice a l.length c := by simpa using hs.shape
  have hll : l.length ≤ 9223372036854775807 := by have := hs.len_le; simp only [List.length_map, maxLen] at this; omega
  have HS := Lib.hid hs
  have HCL := Lib.hid hcl
  clear hs hcl
  go_enter Tryz.func94, Tryz.ntmps94
  go_wp2_with fail
  go_loopw [5, 8] (fun _ i wr => ∃ k : Nat, k ≤ l.length ∧ i = .int .i64 k ∧ l.any f = (l.drop k).any f ∧ Below w.heap.size w wr) (fun _ i _ => l.length - (intOf i).toNat)
  case atStart => exact ⟨0, Nat.zero_le _, rfl, rfl, Below.refl _ _⟩
  case round =>
    obtain ⟨k, hk, rfl, hrel, hbel⟩ := hrel
    have HBEL := Lib.hid hbel
    by_cases hlt : k < l.length
    · obtain ⟨b, off, rfl, hb, hp⟩ := db_at HS.out hlt
      obtain ⟨d0, d1, d2, d3⟩ := hp.below hb hbel
      rw [any_dropD hlt] at hrel
      have HC := Lib.hid (HCL.out wr l[k] (List.getElem_mem hlt) hbel)
      have tk : ((k : Nat) : Int) < (l.length : Int) := by omega
      generalize l[k] = x at *
      obtain ⟨x0, x1, x2, x3⟩ := x
      simp only at d0 d1 d2 d3
      clear hb hp hbel
      generalize hr : f ⟨x0, x1, x2, x3⟩ = r at *
      clear hr
      simp only [Db.cells] at HC
      cases r
      · have HR := Lib.hid hrel
        clear hrel
        go_wp2_with (first
          | (go_at_fn g; refine HC.out.mono ?_; rintro e w2 ⟨rfl, hb2⟩; have HB2 := Lib.hid (HBEL.out.trans (hb2.mono HBEL.out.size)); clear hb2)
          | fail)
        go_roundw
        case rel => exact ⟨k + 1, by omega, by go_num, by rw [HR.out]; rfl, HB2.out⟩
        case measure => (simp [intOf]) <;> omega
      · have HR := Lib.hid hrel
        clear hrel
        go_wp2_with (first
          | (go_at_fn g; refine HC.out.mono ?_; rintro e w2 ⟨rfl, hb2⟩; have HB2 := Lib.hid (HBEL.out.trans (hb2.mono HBEL.out.size)); clear hb2)
          | fail)
        go_ret
        exact ⟨k, rfl, by rw [HR.out]; simp, HB2.out⟩
    · have HE : Hid (l.any f = false) := Lib.hid (by rw [hrel, List.drop_of_length_le (by omega)]; rfl)
      clear hrel hbel hk
      go_wp2_with fail
      go_ret
      exact ⟨-1, rfl, by rw [HE.out]; rfl, HBEL.out⟩
theorem containsD_any (f : Db → Bool) (g : Nat) (cb : Array Value) (l : List Db) (v : Value) (w : World) (hs : Sl w 4 v (l.map Db.row)) (eg : ∀ args w, (callFunc g args).run Tryz.prog w = .ok (.enter g args) w)
    (hcl : ∀ W (x : Db), x ∈ l → Below w.heap.size w W → Calls Tryz.prog g (#[.agg x.cells] ++ cb) W (RetB W (f x))) :
    Calls Tryz.prog 73 #[v, .func (.func g) #[] cb] w (RetB w (l.any f)) := by
  have HI := Lib.hid (indexD_any f g cb l v w hs eg hcl)
  clear hs hcl eg
  go_enter Tryz.func73, Tryz.ntmps73
  go_wp2_with (first
    | ((with_reducible refine HI.out.mono ?_); rintro e w2 ⟨i, rfl, hi, hb2⟩; have HB2 := Lib.hid hb2; have HQ := Lib.hid hi; clear hb2 hi)
    | fail)
  go_ret
  exact ⟨by rw [← HQ.out]; rfl, HB2.out⟩
theorem isCur_usd (w : World) : Calls Tryz.prog 109 #[.string ⟨#[85, 83, 68]⟩] w (RetB w true) := by
  have i0 : (((⟨#[85, 83, 68]⟩ : ByteArray)[0]'(by decide)).toNat : Int) = 85 := by decide
  have i1 : (((⟨#[85, 83, 68]⟩ : ByteArray)[1]'(by decide)).toNat : Int) = 83 := by decide
  have i2 : (((⟨#[85, 83, 68]⟩ : ByteArray)[2]'(by decide)).toNat : Int) = 68 := by decide
  go_enter Tryz.func109, Tryz.ntmps109
  go_wp2
  go_loop [9] (fun i => ∃ k : Int, 0 ≤ k ∧ k ≤ 3 ∧ i = .int .i64 k) (fun i => (3 - intOf i).toNat)
  case atStart => exact ⟨0, by omega, by omega, rfl⟩
  case round =>
    obtain ⟨k, k0, k3, rfl⟩ := hrel
    obtain rfl | rfl | rfl | rfl : k = 0 ∨ k = 1 ∨ k = 2 ∨ k = 3 := by omega
    · go_wp2
      go_round
      case rel => exact ⟨1, by omega, by omega, rfl⟩
      case measure => simp [intOf]
    · go_wp2
      go_round
      case rel => exact ⟨2, by omega, by omega, rfl⟩
      case measure => simp [intOf]
    · go_wp2
      go_round
      case rel => exact ⟨3, by omega, by omega, rfl⟩
      case measure => simp [intOf]
    · go_wp2
      go_ret
      exact retB rfl (Below.refl _ _)
theorem money_usd (a : Int) (h0 : 0 ≤ a) (h1 : a ≤ 1099511627776) (w : World) : Calls Tryz.prog 95 #[.agg #[.string ⟨#[85, 83, 68]⟩, .int .i64 a]] w (RetB w true) := by
  have HO := Lib.hid (one_below w (.cells #[.string ⟨#[85, 83, 68]⟩, .int .i64 a] 135))
  have HC := Lib.hid (heap_alloc_new w (.cells #[.string ⟨#[85, 83, 68]⟩, .int .i64 a] 135))
  have t1 : decide (-1099511627776 ≤ a) = true := decide_eq_true (by omega)
  have t2 : decide (a ≤ 1099511627776) = true := decide_eq_true h1
  go_enter Tryz.func95, Tryz.ntmps95
  go_wp2_with (first
    | ((with_reducible refine (isCur_usd _).mono ?_); rintro e w1 ⟨rfl, hb1⟩; have c1 : w1.cell? ⟨w.heap.size, 1, none⟩ = some (.int .i64 a) := cell_blk (blk hb1 (lt_blk HC.out) HC.out) 1; have HB1 := Lib.hid (HO.out.trans (hb1.mono HO.out.size)); clear hb1)
    | fail)
  go_ret
  exact retB rfl HB1.out
/-- A debt that may be. -/
structure DbOk (x : Db) : Prop where
  f : nameOk x.frm = true
  t : nameOk x.dst = true
  ne : x.frm ≠ x.dst
  cur : x.cur = ⟨#[85, 83, 68]⟩
  lo : 1 ≤ x.amt
  hi : x.amt ≤ 1099511627776
set_option maxHeartbeats 2000000 in
theorem debt_may (x : Db) (h : DbOk x) (w : World) : Calls Tryz.prog 75 #[.agg x.cells] w (RetB w true) := by
  obtain ⟨f, t, c, a⟩ := x
  obtain ⟨h1, h2, h3, h4, h5, h6⟩ := h
  simp only at h1 h2 h3 h4 h5 h6
  subst h4
  have HF := Lib.hid (fun W => markName_any f W)
  have HT := Lib.hid (fun W => markName_any t W)
  rw [h1] at HF
  rw [h2] at HT
  have HM := Lib.hid (fun W => money_usd a (by omega) h6 W)
  have t1 : (f.toList == t.toList) = false := by rw [str_beq]; exact decide_eq_false h3
  have t2 : decide (1 ≤ a) = true := decide_eq_true h5
  have HX := Lib.hid (heap_alloc_new w (.cells #[.string f, .string t, .string ⟨#[85, 83, 68]⟩, .int .i64 a] 46))
  have HB := Lib.hid (one_below w (.cells #[.string f, .string t, .string ⟨#[85, 83, 68]⟩, .int .i64 a] 46))
  simp only [Db.cells]
  clear h1 h2 h3 h5 h6
  go_enter Tryz.func75, Tryz.ntmps75
  go_wp2_with (first
    | ((with_reducible refine (HF.out _).mono ?_); rintro e w1 ⟨rfl, hb1⟩; have HB1 := Lib.hid (HB.out.trans (hb1.mono HB.out.size)); have HX1 := Lib.hid (blk hb1 (lt_blk HX.out) HX.out); clear hb1; have c1 := cell_blk HX1.out 1)
    | ((with_reducible refine (HT.out _).mono ?_); rintro e w2 ⟨rfl, hb2⟩; have HB2 := Lib.hid (HB1.out.trans (hb2.mono HB1.out.size)); have HX2 := Lib.hid (blk hb2 (lt_blk HX1.out) HX1.out); clear hb2; have e0 := cell_blk HX2.out 0; have e1 := cell_blk HX2.out 1; have e2 := cell_blk HX2.out 2; have e3 := cell_blk HX2.out 3)
    | ((with_reducible refine (HM.out _).mono ?_); rintro e w3 ⟨rfl, hb3⟩; have HB3 := Lib.hid (HB2.out.trans (hb3.mono HB2.out.size)); clear hb3)
    | fail)
  go_ret
  exact retB rfl HB3.out
theorem debt_not (x : Db) (h : DbOk x) (w : World) : Calls Tryz.prog 74 #[.agg x.cells] w (RetB w false) := by
  have HM := Lib.hid (fun W => debt_may x h W)
  obtain ⟨f, t, c, a⟩ := x
  simp only [Db.cells] at HM ⊢
  have HB := Lib.hid (one_below w (.cells #[.string f, .string t, .string c, .int .i64 a] 46))
  clear h
  go_enter Tryz.func74, Tryz.ntmps74
  go_wp2_with (first
    | ((with_reducible refine (HM.out _).mono ?_); rintro e w1 ⟨rfl, hb1⟩; have HB1 := Lib.hid (HB.out.trans (hb1.mono HB.out.size)); clear hb1)
    | fail)
  go_ret
  exact retB rfl HB1.out
theorem debts_may (l : List Db) (v : Value) (w : World) (hs : Sl w 4 v (l.map Db.row)) (h : ∀ x ∈ l, DbOk x) (hl : l.length ≤ 4096) : Calls Tryz.prog 44 #[v] w (RetB w true) := by
  have eg : ∀ args w, (callFunc 74 args).run Tryz.prog w = .ok (.enter 74 args) w := enters_of Tryz.func74 (by kernel_rfl) rfl
  have HC := Lib.hid (containsD_any (fun _ => false) 74 #[] l v w hs eg (fun W x hx _ => debt_not x (h x hx) W))
  have hf : l.any (fun _ => false) = false := by simp
  rw [hf] at HC
  obtain ⟨a, c, rfl⟩ : ∃ a c, v = .slice a l.length c := by simpa using hs.shape
  have t1 : decide ((l.length : Int) ≤ 4096) = true := decide_eq_true (by omega)
  have t2 : decide (l.length ≤ 4096) = true := decide_eq_true hl
  clear hs h hl eg hf
  go_enter Tryz.func44, Tryz.ntmps44
  go_wp2_with (first
    | ((with_reducible refine HC.out.mono ?_); rintro e w1 ⟨rfl, hb1⟩; have HB1 := Lib.hid hb1; clear hb1)
    | fail)
  go_ret
  exact retB rfl HB1.out
end Go.Proofs.YtbigoifpfkdkjaaGreat.Sc
