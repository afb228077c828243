/- The lines by their goods; a row of checks of which none holds. The parts an order is cut into: partsMay, nothing, whole. The parts an order is cut into: none is nothing; whole; dates that rise. Dates that rise. The four checks of Cut: none holds. Consignments of an order: of, the closures of the first check. -/
import Derived.Test.YtnbhneeohkfocaaDoorTo15
import Derived.Test.YtnbhneeohkfocaaDoorTo07
import Derived.Shelf.Abstract
import Derived.BigQuiet
namespace Go.Proofs.YtnbhneeohkfocaaDoor.Sc
open Go Go.RowKit Go.ChangeShapes Go.WideShapes Go.ChangeAt
set_option maxRecDepth 100000

def entsL (L : List Ln) : Mp.Ents := L.map fun x => (x.good, .agg x.cells)
theorem keys_entsL (L : List Ln) : Mp.mkeys (entsL L) = L.map Ln.good := by simp [entsL, Mp.mkeys]
theorem put_entsL {L : List Ln} {k : Nat} (h : k < L.length) (hn : (L.map Ln.good).Nodup) : Mp.mput (entsL (L.take k)) L[k].good (.agg L[k].cells) = entsL (L.take (k + 1)) := by
  rw [Mp.mput_new]
  · rw [List.take_succ_eq_append_getElem h]
    simp only [entsL, List.map_append, List.map_cons, List.map_nil]
  · rw [keys_entsL]
    intro hm
    obtain ⟨y, hy, he⟩ := List.mem_map.1 hm
    obtain ⟨i, hi, rfl⟩ := List.getElem_of_mem hy
    rw [List.getElem_take] at he
    have hi2 : i < k := by simp at hi; omega
    have := List.pairwise_iff_getElem.1 hn i k (by simp; omega) (by simpa using h) hi2
    rw [List.getElem_map, List.getElem_map] at this
    exact this he
def ByGP (w : World) (L : List Ln) (e : Ending) (w' : World) : Prop := ∃ bm, e = .returned (.map (some bm)) ∧ w.heap.size ≤ bm ∧ Mp.MapAt w' bm (entsL L) ∧ Below w.heap.size w w'
set_option maxHeartbeats 8000000 in
theorem byGoodO_any (s0 s1 s2 s3 s4 s5 : ByteArray) (tm : Int) (L : List Ln) (v : Value) (w : World) (hs : Sl w 3 v (L.map Ln.row)) (hok : LnsOk L) :
    Calls Tryd.prog 26 #[.agg #[.string s0, .string s1, .string s2, .string s3, .string s4, .string s5, .int .i64 tm, v]] w (ByGP w L) := by
  obtain ⟨a, c, rfl⟩ : ∃ a c, v = .slice a L.length c := by simpa using hs.shape
  have HBX := Lib.hid (one_below w (.cells #[.string s0, .string s1, .string s2, .string s3, .string s4, .string s5, .int .i64 tm, .slice a L.length c] 24))
  have HXB := Lib.hid (heap_alloc_new w (.cells #[.string s0, .string s1, .string s2, .string s3, .string s4, .string s5, .int .i64 tm, .slice a L.length c] 24))
  have HS := Lib.hid hs
  have HOK := Lib.hid hok
  have hl64 := hok.hi
  have tm2 : ∀ W : World, (Instr.makeMap 63 (some (.int .i64 (L.length : Int)))).run Tryd.prog W = .ok (.map (some W.heap.size)) (W.alloc (.map #[] 0)) := fun W => by
    simp [Instr.makeMap, run_underlying Tryd.underlying63, asInt, asIntOf, Result.andThen]
  clear hs hok
  go_enter Tryd.func26, Tryd.ntmps26
  go_upto_region 2 with fail
  have HMA := Lib.hid (Mp.MapAt.made (w.alloc (.cells #[.string s0, .string s1, .string s2, .string s3, .string s4, .string s5, .int .i64 tm, .slice a L.length c] 24)))
  have HBA := Lib.hid (HBX.out.trans ((one_below (w.alloc (.cells #[.string s0, .string s1, .string s2, .string s3, .string s4, .string s5, .int .i64 tm, .slice a L.length c] 24)) (.map #[] 0)).mono HBX.out.size))
  have HXA := Lib.hid (blk (one_below (w.alloc (.cells #[.string s0, .string s1, .string s2, .string s3, .string s4, .string s5, .int .i64 tm, .slice a L.length c] 24)) (.map #[] 0)) (lt_blk HXB.out) HXB.out)
  generalize (w.alloc (.cells #[.string s0, .string s1, .string s2, .string s3, .string s4, .string s5, .int .i64 tm, .slice a L.length c] 24)).alloc (.map #[] 0) = wm at *
  simp only [show (w.alloc (.cells #[.string s0, .string s1, .string s2, .string s3, .string s4, .string s5, .int .i64 tm, .slice a L.length c] 24)).heap.size = w.heap.size + 1 from by simp] at HMA
  obtain ⟨bm, hbm⟩ : ∃ b, b = w.heap.size + 1 := ⟨_, rfl⟩
  have HBM : Hid (w.heap.size ≤ bm) := Lib.hid (by omega)
  rw [← hbm] at HMA ⊢
  clear hbm tm2
  have c7 := cell_blk HXA.out 7
  go_wp2_with fail
  clear c7
  go_loopw [5, 13] (fun _ i wr => ∃ k : Nat, k ≤ L.length ∧ i = .int .i64 k ∧ Mp.MapAt wr bm (entsL (L.take k)) ∧ Below w.heap.size w wr) (fun _ i _ => L.length - (intOf i).toNat)
  case atStart => exact ⟨0, Nat.zero_le _, rfl, HMA.out, HBA.out⟩
  case round =>
    obtain ⟨k, hk, rfl, hm, hbel⟩ := hrel
    have HM := Lib.hid hm
    have HBE := Lib.hid hbel
    by_cases hlt : k < L.length
    · obtain ⟨b, off, rfl, hb, h0, h1, h2⟩ := ln_at HS.out hlt
      have d0 := (hbel.cell (p := ⟨b, off + k * 3, none⟩) hb).trans h0
      have d1 := (hbel.cell (p := ⟨b, off + k * 3 + 1, none⟩) hb).trans h1
      have d2 := (hbel.cell (p := ⟨b, off + k * 3 + 2, none⟩) hb).trans h2
      have tk : ((k : Nat) : Int) < (L.length : Int) := by omega
      have HPU := Lib.hid (put_entsL hlt HOK.out.nd)
      have HK := Lib.hid hlt
      generalize L[k] = x at *
      obtain ⟨xg, xc, xp⟩ := x
      simp only [Ln.cells] at d0 d1 d2 HPU
      generalize entsL (L.take k) = E at *
      have HBL := Lib.hid (one_below wr (.cells #[.string xg, .int .i64 xc, .int .i64 xp] 34))
      have HML := Lib.hid (HM.out.same (HBL.out.block bm HM.out.lt))
      clear h0 h1 h2 hb hbel hm hk hlt
      go_wp2_with (first
        | ((with_reducible refine Mp.wpl_update (b := bm) (l := E) (key := xg) (v := .agg #[.string xg, .int .i64 xc, .int .i64 xp]) ?_ ?_ ?_ ?_ Tryd.underlying63 Tryd.underlying9 HML.out ?_); rfl; rfl; rfl; rfl; intro w8 hm8 hg8 hz8; have HM8 := Lib.hid (HPU.out ▸ hm8); have HB8 := Lib.hid ((HBE.out.trans (HBL.out.mono HBE.out.size)).grown hg8 (Nat.le_trans HBE.out.size HBL.out.size) (fun j hj => by obtain rfl : bm = j := Option.some.inj hj; exact HBM.out)); clear hm8 hg8 hz8; go_frame)
        | fail)
      go_roundw
      case rel => exact ⟨k + 1, by have := HK.out; omega, by go_num, HM8.out, HB8.out⟩
      case measure => (have := HK.out; simp [intOf]) <;> omega
    · have hkl : k = L.length := by omega
      have tk : ¬ (((k : Nat) : Int) < (L.length : Int)) := by omega
      rw [hkl, List.take_length] at HM
      clear hk hlt hbel hm hkl
      go_wp2_with fail
      go_ret
      exact ⟨bm, rfl, HBM.out, HM.out, HBE.out⟩
/-- A check. -/
structure Chk where
  code : Int
  g : Nat
  cb : Array Value
def Chk.row (c : Chk) : List Value := [.int .i64 c.code, .func (.func c.g) #[] c.cb]
set_option maxHeartbeats 8000000 in
theorem first_none (l : List Chk) (v : Value) (w : World) (hs : Sl w 2 v (l.map Chk.row)) (eg : ∀ x ∈ l, ∀ args w, (callFunc x.g args).run Tryd.prog w = .ok (.enter x.g args) w)
    (hcl : ∀ x ∈ l, ∀ W, Below w.heap.size w W → Calls Tryd.prog x.g x.cb W (RetB W false)) : Calls Tryd.prog 14 #[v] w (Ret w (.int .i64 0)) := by
  obtain ⟨a, c, rfl⟩ : ∃ a c, v = .slice a l.length c := by simpa using hs.shape
  have hll : l.length ≤ 9223372036854775807 := by have := hs.len_le; simp only [List.length_map, maxLen] at this; omega
  have HS := Lib.hid hs
  have HC := Lib.hid hcl
  have HE := Lib.hid eg
  clear hs hcl eg
  go_enter Tryd.func14, Tryd.ntmps14
  go_wp2_with fail
  go_loopw [4, 7] (fun _ i wr => ∃ k : Nat, k ≤ l.length ∧ i = .int .i64 k ∧ Below w.heap.size w wr) (fun _ i _ => l.length - (intOf i).toNat)
  case atStart => exact ⟨0, Nat.zero_le _, rfl, Below.refl _ _⟩
  case round =>
    obtain ⟨k, hk, rfl, hbel⟩ := hrel
    have HBE := Lib.hid hbel
    by_cases hlt : k < l.length
    · obtain ⟨b, off, e, -, hb, hc⟩ := HS.out.at (i := k) (by simpa using hlt)
      subst e
      have hr := hc k l[k].row (by rw [List.getElem?_map, List.getElem?_eq_getElem hlt]; rfl)
      have d0 := (hbel.cell (p := ⟨b, off + k * 2, none⟩) hb).trans (hr 0 _ rfl)
      have d1 := (hbel.cell (p := ⟨b, off + k * 2 + 1, none⟩) hb).trans (hr 1 _ rfl)
      have HC1 := Lib.hid (HC.out l[k] (List.getElem_mem hlt))
      have eg := HE.out l[k] (List.getElem_mem hlt)
      have HK := Lib.hid hlt
      have tk : ((k : Nat) : Int) < (l.length : Int) := by omega
      generalize l[k] = x at *
      obtain ⟨xc, g, cb⟩ := x
      simp only at d0 d1 eg HC1
      have HBX := Lib.hid (one_below wr (.cells #[.int .i64 xc, .func (.func g) #[] cb] 54))
      have HCW := Lib.hid (HC1.out (wr.alloc (.cells #[.int .i64 xc, .func (.func g) #[] cb] 54)) (HBE.out.trans (HBX.out.mono HBE.out.size)))
      clear hr hc hb hbel hk hlt
      go_wp2_with (first
        | (go_at_fn g; refine HCW.out.mono ?_; rintro e w2 ⟨rfl, hb2⟩; have HB2 := Lib.hid ((HBE.out.trans (HBX.out.mono HBE.out.size)).trans (hb2.mono (Nat.le_trans HBE.out.size HBX.out.size))); clear hb2)
        | fail)

      go_roundw
      case rel => exact ⟨k + 1, by have := HK.out; omega, by go_num, HB2.out⟩
      case measure => (have := HK.out; simp [intOf]) <;> omega
    · have tk : ¬ (((k : Nat) : Int) < (l.length : Int)) := by omega
      clear hk hlt hbel
      go_wp2_with fail
      go_ret
      exact ⟨rfl, HBE.out⟩
end Go.Proofs.YtnbhneeohkfocaaDoor.Sc
namespace Go.Proofs.YtnbhneeohkfocaaDoor.Sc
open Go Go.RowKit Go.ChangeShapes Go.WideShapes Go.ChangeAt
set_option maxRecDepth 100000

theorem cell_ltO {w : World} {p : Addr} {v : Value} (h : w.cell? p = some v) : p.block < w.heap.size := World.block_lt_of_cell? w p h
/-- A row of rows of numbers in memory. -/
def PtAt (w : World) (b off : Nat) (n m : Nat) (p : Nat → Nat → Int) : Prop :=
  ∀ i, i < n → ∃ bi oi ci, w.cell? ⟨b, off + i, none⟩ = some (.slice (some ⟨bi, oi, none⟩) m ci) ∧ ∀ j, j < m → w.cell? ⟨bi, oi + j, none⟩ = some (.int .i64 (p i j))
theorem PtAt.below {w w' : World} {b off n m : Nat} {p : Nat → Nat → Int} (h : PtAt w b off n m p) (hb : Below w.heap.size w w') : PtAt w' b off n m p := fun i hi => by
  obtain ⟨bi, oi, ci, h1, h2⟩ := h i hi
  exact ⟨bi, oi, ci, (hb.cell (cell_ltO h1)).trans h1, fun j hj => (hb.cell (cell_ltO (h2 j hj))).trans (h2 j hj)⟩
/-- A row of numbers in memory. -/
def DtAt (w : World) (b off n : Nat) (d : Nat → Int) : Prop := ∀ i, i < n → w.cell? ⟨b, off + i, none⟩ = some (.int .i64 (d i))
theorem DtAt.below {w w' : World} {b off n : Nat} {d : Nat → Int} (h : DtAt w b off n d) (hb : Below w.heap.size w w') : DtAt w' b off n d := fun i hi => (hb.cell (cell_ltO (h i hi))).trans (h i hi)
def sumN : Nat → (Nat → Int) → Int
  | 0, _ => 0
  | n + 1, f => sumN n f + f n
/-- Parts that an order may be cut into. -/
structure PtsOk (L : List Ln) (n : Nat) (p : Nat → Nat → Int) : Prop where
  n1 : 1 ≤ n
  n2 : n ≤ 2
  nn : ∀ i, i < n → ∀ j, j < L.length → 0 ≤ p i j
  sm : ∀ i, i < n → ∃ j, j < L.length ∧ p i j ≠ 0
  tot : ∀ j (hj : j < L.length), sumN n (fun i => p i j) = L[j].cnt
set_option maxHeartbeats 8000000 in
theorem partsMay_any (s0 s1 s2 s3 s4 s5 : ByteArray) (tm : Int) (L : List Ln) (a : Option Addr) (c : Nat) (w : World) (hl : L.length ≤ 64) (n : Nat) (p : Nat → Nat → Int) (hp : PtsOk L n p) (d : Nat → Int) (hd : ∀ i, i < n → 0 ≤ d i ∧ d i ≤ 1048576)
    (b1 o1 c1 b2 o2 c2 : Nat) (h1 : DtAt w b1 o1 n d) (h2 : PtAt w b2 o2 n L.length p) :
    Calls Tryd.prog 16 #[.agg #[.string s0, .string s1, .string s2, .string s3, .string s4, .string s5, .int .i64 tm, .slice a L.length c], .slice (some ⟨b1, o1, none⟩) n c1, .slice (some ⟨b2, o2, none⟩) n c2] w (RetB w true) := by
  have HBX := Lib.hid (one_below w (.cells #[.string s0, .string s1, .string s2, .string s3, .string s4, .string s5, .int .i64 tm, .slice a L.length c] 24))
  have HXB := Lib.hid (heap_alloc_new w (.cells #[.string s0, .string s1, .string s2, .string s3, .string s4, .string s5, .int .i64 tm, .slice a L.length c] 24))
  have HP := Lib.hid hp
  have HD := Lib.hid hd
  have H1 := Lib.hid (h1.below HBX.out)
  have H2 := Lib.hid (h2.below HBX.out)
  have hn2 := hp.n2
  have t1 : decide ((n : Int) < 1) = false := decide_eq_false (by have := hp.n1; omega)
  have t2 : decide (n < 1) = false := decide_eq_false (by have := hp.n1; omega)
  have t3 : decide (64 < (n : Int)) = false := decide_eq_false (by omega)
  have t4 : decide (64 < n) = false := decide_eq_false (by omega)
  have t0 : ((n : Int) != (n : Int)) = false := by simp
  clear hp hd h1 h2
  go_enter Tryd.func16, Tryd.ntmps16
  go_wp2_with fail
  clear t0 t1 t2 t3 t4
  generalize w.alloc (.cells #[.string s0, .string s1, .string s2, .string s3, .string s4, .string s5, .int .i64 tm, .slice a L.length c] 24) = wb at *
  go_loopw [8, 30] (fun _ i wr => ∃ k : Nat, k ≤ n ∧ i = .int .i64 k ∧ wr = wb) (fun _ i _ => n - (intOf i).toNat)
  case atStart => exact ⟨0, Nat.zero_le _, rfl, rfl⟩
  case round =>
  obtain ⟨k, hk, rfl, rfl⟩ := hrel
  by_cases hlt : k < n
  · have d0 := H1.out k hlt
    have h0 := HD.out k hlt
    have tk : ((k : Nat) : Int) < (n : Int) := by omega
    have t1 : decide (d k < 0) = false := decide_eq_false (by omega)
    have t2 : decide (1048576 < d k) = false := decide_eq_false (by omega)
    have HK := Lib.hid hlt
    generalize d k = dk at *
    clear h0 hk hlt
    go_wp2_with fail
    go_roundw
    case rel => exact ⟨k + 1, by have := HK.out; omega, by go_num, by trivial⟩
    case measure => (have := HK.out; simp [intOf]) <;> omega
  have tk : ¬ (((k : Nat) : Int) < (n : Int)) := by omega
  clear hk hlt
  go_wp2_with fail
  clear tk
  go_loopw [10, 12, 43] (fun _ _ i wx => ∃ k : Nat, k ≤ n ∧ i = .int .i64 k ∧ wx = wr) (fun _ _ i _ => n - (intOf i).toNat)
  case atStart => exact ⟨0, Nat.zero_le _, rfl, rfl⟩
  case round =>
  obtain ⟨k, hk, rfl, rfl⟩ := hrel
  by_cases hlt : k < n
  · obtain ⟨bi, oi, ci, d0, hr⟩ := H2.out k hlt
    have HR := Lib.hid hr
    have HNN := Lib.hid (fun j hj => HP.out.nn k hlt j hj)
    have tk : ((k : Nat) : Int) < (n : Int) := by omega
    have t0 : ((L.length : Int) != (L.length : Int)) = false := by simp
    have c7 := cell_blk HXB.out 7
    have HK := Lib.hid hlt
    clear hk hlt hr
    go_wp2_with fail
    clear c7 t0 d0
    go_loopw [12, 55] (fun _ i wx => ∃ j : Nat, j ≤ L.length ∧ i = .int .i64 j ∧ wx = wr) (fun _ i _ => L.length - (intOf i).toNat)
    case atStart => exact ⟨0, Nat.zero_le _, rfl, rfl⟩
    case round =>
    obtain ⟨j, hj, rfl, rfl⟩ := hrel
    by_cases hlt : j < L.length
    · have d0 := HR.out j hlt
      have h0 := HNN.out j hlt
      have tj : ((j : Nat) : Int) < (L.length : Int) := by omega
      have t1 : decide (p k j < 0) = false := decide_eq_false (by omega)
      have HJ := Lib.hid hlt
      generalize p k j = q at *
      clear h0 hj hlt
      go_wp2_with fail
      go_roundw
      case rel => exact ⟨j + 1, by have := HJ.out; omega, by go_num, by trivial⟩
      case measure => (have := HJ.out; simp [intOf]) <;> omega
    have tj : ¬ (((j : Nat) : Int) < (L.length : Int)) := by omega
    clear hj hlt
    go_wp2_with fail
    go_roundw
    case rel => exact ⟨k + 1, by have := HK.out; omega, by go_num, by trivial⟩
    case measure => (have := HK.out; simp [intOf]) <;> omega
  have tk : ¬ (((k : Nat) : Int) < (n : Int)) := by omega
  clear hk hlt
  go_wp2_with fail
  go_ret
  exact retB rfl HBX.out
/-- A part that has something is not nothing. -/
theorem nothing_no (m : Nat) (q : Nat → Int) (b off c : Nat) (w : World) (hm : m ≤ 64) (h : DtAt w b off m q) (hq : ∃ j, j < m ∧ q j ≠ 0) : Calls Tryd.prog 21 #[.slice (some ⟨b, off, none⟩) m c] w (RetB w false) := by
  have H := Lib.hid h
  have HQ := Lib.hid hq
  clear h hq
  go_enter Tryd.func21, Tryd.ntmps21
  go_wp2_with fail
  go_loopw [4, 7] (fun _ i wr => ∃ k : Nat, k ≤ m ∧ i = .int .i64 k ∧ (∀ j, j < k → q j = 0) ∧ wr = w) (fun _ i _ => m - (intOf i).toNat)
  case atStart => exact ⟨0, Nat.zero_le _, rfl, fun j h => absurd h (by omega), rfl⟩
  case round =>
  obtain ⟨k, hk, rfl, hz, rfl⟩ := hrel
  have HZ := Lib.hid hz
  clear hz
  by_cases hlt : k < m
  · have d0 := H.out k hlt
    have tk : ((k : Nat) : Int) < (m : Int) := by omega
    have HK := Lib.hid hlt
    by_cases h0 : q k = 0
    · have t1 : (q k != 0) = false := by simp [h0]
      have H0 := Lib.hid h0
      generalize hqk : q k = x at *
      have HQK := Lib.hid hqk
      clear hk hlt h0 hqk
      go_wp2_with fail
      go_roundw
      case rel => exact ⟨k + 1, by have := HK.out; omega, by go_num, fun j hj => by
        rcases Nat.lt_or_ge j k with h | h
        · exact HZ.out j h
        · obtain rfl : j = k := by omega
          rw [HQK.out]
          exact H0.out, by trivial⟩
      case measure => (have := HK.out; simp [intOf]) <;> omega
    · have t1 : (q k != 0) = true := by simp [h0]
      generalize q k = x at *
      clear hk hlt h0
      go_wp2_with fail
      go_ret
      exact retB rfl (Below.refl _ _)
  · exfalso
    obtain ⟨j, hj, hne⟩ := HQ.out
    exact hne (HZ.out j (by omega))
end Go.Proofs.YtnbhneeohkfocaaDoor.Sc
namespace Go.Proofs.YtnbhneeohkfocaaDoor.Sc
open Go Go.RowKit Go.ChangeShapes Go.WideShapes Go.ChangeAt
set_option maxRecDepth 100000

theorem idxP_any (L : List Ln) (n : Nat) (p : Nat → Nat → Int) (hp : PtsOk L n p) (hl : L.length ≤ 64) (b off c : Nat) (w : World) (h : PtAt w b off n L.length p) :
    Calls Tryd.prog 38 #[.slice (some ⟨b, off, none⟩) n c, .func (.func 21) #[] #[]] w (fun e w' => e = .returned (.int .i64 (-1)) ∧ Below w.heap.size w w') := by
  have H := Lib.hid h
  have HP := Lib.hid hp
  have HL := Lib.hid hl
  have hn2 := hp.n2
  clear h hp hl
  go_enter Tryd.func38, Tryd.ntmps38
  go_wp2_with fail
  go_loopw [5, 8] (fun _ i wr => ∃ k : Nat, k ≤ n ∧ i = .int .i64 k ∧ Below w.heap.size w wr) (fun _ i _ => n - (intOf i).toNat)
  case atStart => exact ⟨0, Nat.zero_le _, rfl, Below.refl _ _⟩
  case round =>
  obtain ⟨k, hk, rfl, hbel⟩ := hrel
  have HB := Lib.hid hbel
  by_cases hlt : k < n
  · obtain ⟨bi, oi, ci, d0, hr⟩ := (H.out.below hbel) k hlt
    have HN := Lib.hid (nothing_no L.length (p k) bi oi ci wr HL.out hr (HP.out.sm k hlt))
    have tk : ((k : Nat) : Int) < (n : Int) := by omega
    have HK := Lib.hid hlt
    clear hk hlt hr hbel
    go_wp2_with (first
      | ((with_reducible refine HN.out.mono ?_); rintro e w2 ⟨rfl, hb2⟩; have HB2 := Lib.hid (HB.out.trans (hb2.mono HB.out.size)); clear hb2)
      | fail)
    go_roundw
    case rel => exact ⟨k + 1, by have := HK.out; omega, by go_num, HB2.out⟩
    case measure => (have := HK.out; simp [intOf]) <;> omega
  have tk : ¬ (((k : Nat) : Int) < (n : Int)) := by omega
  clear hk hlt hbel
  go_wp2_with fail
  go_ret
  exact ⟨rfl, HB.out⟩
theorem anyP_no (L : List Ln) (n : Nat) (p : Nat → Nat → Int) (hp : PtsOk L n p) (hl : L.length ≤ 64) (b off c : Nat) (w : World) (h : PtAt w b off n L.length p) :
    Calls Tryd.prog 20 #[.slice (some ⟨b, off, none⟩) n c, .func (.func 21) #[] #[]] w (RetB w false) := by
  have HI := Lib.hid (idxP_any L n p hp hl b off c w h)
  clear hp hl h
  go_enter Tryd.func20, Tryd.ntmps20
  go_wp2_with (first
    | ((with_reducible refine HI.out.mono ?_); rintro e w2 ⟨rfl, hb2⟩; have HB2 := Lib.hid hb2; clear hb2)
    | fail)
  go_ret
  exact retB rfl HB2.out
theorem ret_int0 {x y : Int} (h : x = y) : Value.int .i64 x = Value.int .i64 y := by rw [h]
theorem sumN_le {n : Nat} {f : Nat → Int} (h : ∀ i, i < n → 0 ≤ f i) : ∀ k, k ≤ n → 0 ≤ sumN k f ∧ sumN k f ≤ sumN n f := by
  have hm : ∀ d k, k + d = n → sumN k f ≤ sumN n f := by
    intro d
    induction d with
    | zero => intro k e; rw [show k = n by omega]; exact Int.le_refl _
    | succ d ih =>
      intro k e
      have h1 := ih (k + 1) (by omega)
      have h2 := h k (by omega)
      rw [sumN] at h1
      omega
  intro k
  induction k with
  | zero => intro _; exact ⟨Int.le_refl _, hm n 0 (by omega)⟩
  | succ k ih =>
    intro hk
    have h1 := ih (by omega)
    have h2 := h k (by omega)
    exact ⟨by rw [sumN]; omega, hm (n - (k + 1)) (k + 1) (by omega)⟩
set_option maxHeartbeats 8000000 in
theorem whole_any (s0 s1 s2 s3 s4 s5 : ByteArray) (tm : Int) (L : List Ln) (a : Option Addr) (c : Nat) (w : World) (hs : Sl w 3 (.slice a L.length c) (L.map Ln.row)) (hok : LnsOk L) (n : Nat) (p : Nat → Nat → Int) (hp : PtsOk L n p)
    (b2 o2 c2 : Nat) (h2 : PtAt w b2 o2 n L.length p) :
    Calls Tryd.prog 23 #[.agg #[.string s0, .string s1, .string s2, .string s3, .string s4, .string s5, .int .i64 tm, .slice a L.length c], .slice (some ⟨b2, o2, none⟩) n c2] w (RetB w true) := by
  have HBX := Lib.hid (one_below w (.cells #[.string s0, .string s1, .string s2, .string s3, .string s4, .string s5, .int .i64 tm, .slice a L.length c] 24))
  have HXB := Lib.hid (heap_alloc_new w (.cells #[.string s0, .string s1, .string s2, .string s3, .string s4, .string s5, .int .i64 tm, .slice a L.length c] 24))
  have HP := Lib.hid hp
  have HS := Lib.hid hs
  have HOK := Lib.hid hok
  have H2 := Lib.hid h2
  have hn2 := hp.n2
  have hl64 := hok.hi
  clear hp h2 hs hok
  go_enter Tryd.func23, Tryd.ntmps23
  have c7 := cell_blk HXB.out 7
  go_wp2_with fail
  clear c7
  go_loopw [5, 6, 7, 9, 13] (fun _ _ _ _ i wr => ∃ j : Nat, j ≤ L.length ∧ i = .int .i64 j ∧ Below w.heap.size w wr) (fun _ _ _ _ i _ => L.length - (intOf i).toNat)
  case atStart => exact ⟨0, Nat.zero_le _, rfl, HBX.out⟩
  case round =>
  obtain ⟨j, hj, rfl, hbel⟩ := hrel
  have HB := Lib.hid hbel
  by_cases hlt : j < L.length
  · obtain ⟨b, off, rfl, hb, h0, h1, h2⟩ := ln_at HS.out hlt
    have d0 := (hbel.cell (p := ⟨b, off + j * 3, none⟩) hb).trans h0
    have d1 := (hbel.cell (p := ⟨b, off + j * 3 + 1, none⟩) hb).trans h1
    have d2 := (hbel.cell (p := ⟨b, off + j * 3 + 2, none⟩) hb).trans h2
    have tj : ((j : Nat) : Int) < (L.length : Int) := by omega
    have HTT := Lib.hid (HP.out.tot j hlt)
    have hc0 := HOK.out.c0 _ (List.getElem_mem hlt)
    have HNN := Lib.hid (fun i hi => HP.out.nn i hi j hlt)
    have HJ := Lib.hid hlt
    generalize L[j] = x at *
    obtain ⟨xg, xc, xp⟩ := x
    simp only at d0 d1 d2 hc0 HTT
    have HC0 := Lib.hid hc0
    have HW1 := Lib.hid (HB.out.trans ((one_below wr (.cells #[.string xg, .int .i64 xc, .int .i64 xp] 34)).mono HB.out.size))
    clear h0 h1 h2 hb hbel hj hlt hc0
    go_wp2_with fail
    clear d0 d1 d2
    generalize wr.alloc (.cells #[.string xg, .int .i64 xc, .int .i64 xp] 34) = wx at *
    go_loopw [7, 9, 22] (fun s _ i wq => ∃ k : Nat, k ≤ n ∧ i = .int .i64 k ∧ s = .int .i64 (xc - sumN k (fun i => p i j)) ∧ wq = wx) (fun _ _ i _ => n - (intOf i).toNat)
    case atStart => exact ⟨0, Nat.zero_le _, rfl, by simp [sumN], rfl⟩
    case round =>
    obtain ⟨k, hk, rfl, rfl, rfl⟩ := hrel
    by_cases hlt : k < n
    · obtain ⟨bi, oi, ci, e0, hr⟩ := (H2.out.below HW1.out) k hlt
      have e1 := hr j HJ.out
      have tk : ((k : Nat) : Int) < (n : Int) := by omega
      have hb0 := HNN.out k hlt
      have hb1 := sumN_le (fun i hi => HNN.out i hi) k (Nat.le_of_lt hlt)
      have hb2 := sumN_le (fun i hi => HNN.out i hi) (k + 1) hlt
      have hq : sumN (k + 1) (fun i => p i j) = sumN k (fun i => p i j) + p k j := rfl
      have hc := HC0.out
      rw [HTT.out, hq] at hb2
      have HQ := Lib.hid hq
      generalize sumN k (fun i => p i j) = s at *
      generalize p k j = q at *
      have t1 : decide (xc - s < q) = false := decide_eq_false (by omega)
      have t2 : wrap64 (xc - s - q) = xc - s - q := IntWalk.wrap64_in _ (by omega)
      have HT2 := Lib.hid t2
      have HK := Lib.hid hlt
      clear hk hlt hr hb0 hb1 hb2 hq hc
      go_wp2_with fail
      go_roundw
      case rel => exact ⟨k + 1, by have := HK.out; omega, by go_num, by rw [HQ.out]; first | (rw [HT2.out]; exact ret_int0 (by omega)) | exact ret_int0 (by omega), by trivial⟩
      case measure => (have := HK.out; simp [intOf]) <;> omega
    obtain rfl : k = n := by omega
    have hz : xc - sumN k (fun i => p i j) = 0 := by rw [HTT.out]; omega
    rw [hz]
    have tk : ¬ (((k : Nat) : Int) < (k : Int)) := by omega
    clear hk hlt hz
    go_wp2_with fail
    go_roundw
    case rel => exact ⟨j + 1, by have := HJ.out; omega, by go_num, HW1.out⟩
    case measure => (have := HJ.out; simp [intOf]) <;> omega
  have tj : ¬ (((j : Nat) : Int) < (L.length : Int)) := by omega
  clear hj hlt hbel
  go_wp2_with fail
  go_ret
  exact retB rfl HB.out
end Go.Proofs.YtnbhneeohkfocaaDoor.Sc
namespace Go.Proofs.YtnbhneeohkfocaaDoor.Sc
open Go Go.RowKit Go.ChangeShapes Go.WideShapes Go.ChangeAt
set_option maxRecDepth 100000

theorem sorted1 (b o c : Nat) (w : World) : Calls Tryd.prog 18 #[.slice (some ⟨b, o, none⟩) 1 c] w (RetB w true) := by
  go_enter Tryd.func18, Tryd.ntmps18
  go_wp2_with fail
  go_loopw [3] (fun i wr => i = .int .i64 0 ∧ wr = w) (fun _ _ => 0)
  case atStart => exact ⟨rfl, rfl⟩
  case round =>
    obtain ⟨rfl, rfl⟩ := hrel
    go_wp2_with fail
    go_ret
    exact retB rfl (Below.refl _ _)
theorem sorted2 (b o c : Nat) (x y : Int) (w : World) (h0 : w.cell? ⟨b, o, none⟩ = some (.int .i64 x)) (h1 : w.cell? ⟨b, o + 1, none⟩ = some (.int .i64 y)) (hxy : x ≤ y) : Calls Tryd.prog 18 #[.slice (some ⟨b, o, none⟩) 2 c] w (RetB w true) := by
  have t1 : decide (y < x) = false := decide_eq_false (by omega)
  have HL : Hid (∀ W, Calls Tryd.prog 37 #[.int .i64 y, .int .i64 x] W (fun e w' => e = .returned (.bool false) ∧ ∃ n, w' = W.drewN n)) := Lib.hid (fun W => (Tryd.cmp_Less_int2 y x W).mono (by
    rintro e w' ⟨rfl, rfl⟩
    exact ⟨by rw [t1], 0, rfl⟩))
  have H0 := Lib.hid h0
  have H1 := Lib.hid h1
  clear hxy h0 h1
  go_enter Tryd.func18, Tryd.ntmps18
  go_wp2_with fail
  go_loopw [3] (fun i wr => (i = .int .i64 1 ∧ wr = w) ∨ (i = .int .i64 0 ∧ Below w.heap.size w wr)) (fun i _ => (intOf i).toNat)
  case atStart => exact .inl ⟨rfl, rfl⟩
  case round =>
    rcases hrel with ⟨rfl, rfl⟩ | ⟨rfl, hb⟩
    · have f1 : IntKind.i64.wrap 0 = 0 := IntWalk.i64_in _ (by omega)
      have d0 := H0.out
      have d1 := H1.out
      go_wp2_with fail
      go_quiet (first | (refine Calls.quiet_of (HL.out _)) | fail)
      go_wp2_with fail
      go_roundw
      case rel => exact .inr ⟨by go_num, below_drewN (Below.refl _ _) _⟩
      case measure => simp [intOf]
    · have HB := Lib.hid hb
      clear hb
      go_wp2_with fail
      go_ret
      exact retB rfl HB.out
end Go.Proofs.YtnbhneeohkfocaaDoor.Sc
namespace Go.Proofs.YtnbhneeohkfocaaDoor.Sc
open Go Go.RowKit Go.ChangeShapes Go.WideShapes Go.ChangeAt
set_option maxRecDepth 100000

/-- What Cut is asked with, in memory: the order, the dates and the parts, each in its box. -/
structure CutW (s0 s1 s2 s3 s4 s5 : ByteArray) (tm : Int) (L : List Ln) (a : Option Addr) (c n : Nat) (d : Nat → Int) (p : Nat → Nat → Int) (b1 o1 c1 b2 o2 c2 : Nat) (W : World) (bo bd bp : Nat) : Prop where
  xo : W.heap[bo]? = some (.cells #[.string s0, .string s1, .string s2, .string s3, .string s4, .string s5, .int .i64 tm, .slice a L.length c] 24 (0, 0))
  xd : W.cell? ⟨bd, 0, none⟩ = some (.slice (some ⟨b1, o1, none⟩) n c1)
  xp : W.cell? ⟨bp, 0, none⟩ = some (.slice (some ⟨b2, o2, none⟩) n c2)
  sl : Sl W 3 (.slice a L.length c) (L.map Ln.row)
  dt : DtAt W b1 o1 n d
  pt : PtAt W b2 o2 n L.length p
/-- .. and what is known of it. -/
structure CutK (s0 s1 s2 s3 s4 s5 : ByteArray) (tm : Int) (L : List Ln) (n : Nat) (d : Nat → Int) (p : Nat → Nat → Int) : Prop where
  may : mayO s0 s1 s2 s3 s4 s5 tm L = true
  ok : LnsOk L
  pts : PtsOk L n p
  dr : ∀ i, i < n → 0 ≤ d i ∧ d i ≤ 1048576
  rise : d 0 ≤ d 1
section
variable {s0 s1 s2 s3 s4 s5 : ByteArray} {tm : Int} {L : List Ln} {a : Option Addr} {c n : Nat} {d : Nat → Int} {p : Nat → Nat → Int} {b1 o1 c1 b2 o2 c2 : Nat} {W : World} {bo bd bp : Nat}
theorem CutW.below {W' : World} (h : CutW s0 s1 s2 s3 s4 s5 tm L a c n d p b1 o1 c1 b2 o2 c2 W bo bd bp) (hb : Below W.heap.size W W') : CutW s0 s1 s2 s3 s4 s5 tm L a c n d p b1 o1 c1 b2 o2 c2 W' bo bd bp :=
  ⟨blk hb (lt_blk h.xo) h.xo, (hb.cell (cell_ltO h.xd)).trans h.xd, (hb.cell (cell_ltO h.xp)).trans h.xp, h.sl.below hb (Nat.le_refl _), h.dt.below hb, h.pt.below hb⟩
theorem cut1_no (h : CutW s0 s1 s2 s3 s4 s5 tm L a c n d p b1 o1 c1 b2 o2 c2 W bo bd bp) (k : CutK s0 s1 s2 s3 s4 s5 tm L n d p) : Calls Tryd.prog 15 #[.pointer (some ⟨bo, 0, none⟩), .pointer (some ⟨bd, 0, none⟩), .pointer (some ⟨bp, 0, none⟩)] W (RetB W false) := by
  have HM := Lib.hid (may_any s0 s1 s2 s3 s4 s5 tm L _ W h.sl)
  rw [k.may] at HM
  have HP := Lib.hid (fun W' (hb : Below W.heap.size W W') => partsMay_any s0 s1 s2 s3 s4 s5 tm L a c W' k.ok.hi n p k.pts d k.dr b1 o1 c1 b2 o2 c2 (h.dt.below hb) (h.pt.below hb))
  have HH := Lib.hid h
  have x0 := cell_blk h.xo 0
  have x1 := cell_blk h.xo 1
  have x2 := cell_blk h.xo 2
  have x3 := cell_blk h.xo 3
  have x4 := cell_blk h.xo 4
  have x5 := cell_blk h.xo 5
  have x6 := cell_blk h.xo 6
  have x7 := cell_blk h.xo 7
  clear h k
  go_enter Tryd.func15, Tryd.ntmps15
  go_wp2_with (first
    | ((with_reducible refine HM.out.mono ?_); rintro e w1 ⟨rfl, hb1⟩; have HB1 := Lib.hid hb1; have h1 := HH.out.below hb1; have y0 := cell_blk h1.xo 0; have y1 := cell_blk h1.xo 1; have y2 := cell_blk h1.xo 2; have y3 := cell_blk h1.xo 3; have y4 := cell_blk h1.xo 4; have y5 := cell_blk h1.xo 5; have y6 := cell_blk h1.xo 6; have y7 := cell_blk h1.xo 7; have yd := h1.xd; have yp := h1.xp; clear hb1 h1)
    | ((with_reducible refine (HP.out _ HB1.out).mono ?_); rintro e w2 ⟨rfl, hb2⟩; have HB2 := Lib.hid (HB1.out.trans (hb2.mono HB1.out.size)); clear hb2)
    | fail)
  go_ret
  exact retB rfl HB2.out
theorem cut2_no (h : CutW s0 s1 s2 s3 s4 s5 tm L a c n d p b1 o1 c1 b2 o2 c2 W bo bd bp) (k : CutK s0 s1 s2 s3 s4 s5 tm L n d p) : Calls Tryd.prog 17 #[.pointer (some ⟨bd, 0, none⟩)] W (RetB W false) := by
  have HS : Hid (Calls Tryd.prog 18 #[.slice (some ⟨b1, o1, none⟩) n c1] W (RetB W true)) := Lib.hid (by
    obtain rfl | rfl : n = 1 ∨ n = 2 := by have := k.pts.n1; have := k.pts.n2; omega
    · exact sorted1 b1 o1 c1 W
    · exact sorted2 b1 o1 c1 (d 0) (d 1) W (h.dt 0 (by decide)) (h.dt 1 (by decide)) k.rise)
  have xd := h.xd
  clear h k
  go_enter Tryd.func17, Tryd.ntmps17
  go_wp2_with (first
    | ((with_reducible refine HS.out.mono ?_); rintro e w1 ⟨rfl, hb1⟩; have HB1 := Lib.hid hb1; clear hb1)
    | fail)
  go_ret
  exact retB rfl HB1.out
theorem cut3_no (h : CutW s0 s1 s2 s3 s4 s5 tm L a c n d p b1 o1 c1 b2 o2 c2 W bo bd bp) (k : CutK s0 s1 s2 s3 s4 s5 tm L n d p) : Calls Tryd.prog 19 #[.pointer (some ⟨bp, 0, none⟩)] W (RetB W false) := by
  have HS := Lib.hid (anyP_no L n p k.pts k.ok.hi b2 o2 c2 W h.pt)
  have xp := h.xp
  clear h k
  go_enter Tryd.func19, Tryd.ntmps19
  go_wp2_with (first
    | ((with_reducible refine HS.out.mono ?_); rintro e w1 ⟨rfl, hb1⟩; have HB1 := Lib.hid hb1; clear hb1)
    | fail)
  go_ret
  exact retB rfl HB1.out
theorem cut4_no (h : CutW s0 s1 s2 s3 s4 s5 tm L a c n d p b1 o1 c1 b2 o2 c2 W bo bd bp) (k : CutK s0 s1 s2 s3 s4 s5 tm L n d p) : Calls Tryd.prog 22 #[.pointer (some ⟨bo, 0, none⟩), .pointer (some ⟨bp, 0, none⟩)] W (RetB W false) := by
  have HS := Lib.hid (whole_any s0 s1 s2 s3 s4 s5 tm L a c W h.sl k.ok n p k.pts b2 o2 c2 h.pt)
  have xp := h.xp
  have x0 := cell_blk h.xo 0
  have x1 := cell_blk h.xo 1
  have x2 := cell_blk h.xo 2
  have x3 := cell_blk h.xo 3
  have x4 := cell_blk h.xo 4
  have x5 := cell_blk h.xo 5
  have x6 := cell_blk h.xo 6
  have x7 := cell_blk h.xo 7
  clear h k
  go_enter Tryd.func22, Tryd.ntmps22
  go_wp2_with (first
    | ((with_reducible refine HS.out.mono ?_); rintro e w1 ⟨rfl, hb1⟩; have HB1 := Lib.hid hb1; clear hb1)
    | fail)
  go_ret
  exact retB rfl HB1.out
end
end Go.Proofs.YtnbhneeohkfocaaDoor.Sc
namespace Go.Proofs.YtnbhneeohkfocaaDoor.Sc
open Go Go.RowKit Go.ChangeShapes Go.WideShapes Go.ChangeAt
set_option maxRecDepth 100000

section
variable {s0 s1 s2 s3 s4 s5 : ByteArray} {tm : Int} {L : List Ln} {a : Option Addr} {c : Nat}
set_option maxHeartbeats 4000000 in
theorem of_yes (l : List Lt) (a2 : Option Addr) (c2 : Nat) (num lat : Int) (w : World) (hs : Sl w 2 (.slice a2 l.length c2) (l.map Lt.row)) (hok : ∀ x ∈ l, nameOk x.good = true ∧ cntO x.cnt = true) (hl : l.length ≤ 64) :
    Calls Tryd.prog 42 #[.agg #[.string s0, .string s1, .string s2, .string s3, .string s4, .string s5, .int .i64 tm, .slice a L.length c], .agg #[.string s0, .int .i64 num, .int .i64 lat, .slice a2 l.length c2]] w (RetB w true) := by
  obtain ⟨w2, hw2⟩ : ∃ W, W = (w.alloc (.cells #[.string s0, .string s1, .string s2, .string s3, .string s4, .string s5, .int .i64 tm, .slice a L.length c] 24)).alloc (.cells #[.string s0, .int .i64 num, .int .i64 lat, .slice a2 l.length c2] 43) := ⟨_, rfl⟩
  have hb1 := one_below w (.cells #[.string s0, .string s1, .string s2, .string s3, .string s4, .string s5, .int .i64 tm, .slice a L.length c] 24)
  have HB2 : Hid (Below w.heap.size w w2) := Lib.hid (hw2 ▸ hb1.trans ((one_below _ _).mono hb1.size))
  have HW2 := Lib.hid hw2.symm
  have HS := Lib.hid hs
  have HOK := Lib.hid hok
  have t1 : (s0.toList != s0.toList) = false := by simp
  clear hs hok hb1
  go_enter Tryd.func42, Tryd.ntmps42
  go_wp2_with fail
  rw [HW2.out]
  clear hw2
  go_loopw [6, 15] (fun _ i wr => ∃ k : Nat, k ≤ l.length ∧ i = .int .i64 k ∧ Below w.heap.size w wr) (fun _ i _ => l.length - (intOf i).toNat)
  case atStart => exact ⟨0, Nat.zero_le _, rfl, HB2.out⟩
  case round =>
  obtain ⟨k, hk, rfl, hbel⟩ := hrel
  have HB := Lib.hid hbel
  by_cases hlt : k < l.length
  · obtain ⟨b, off, rfl, -, hb, hc⟩ := HS.out.at (i := k) (by simpa using hlt)
    have d0 := (hbel.cell (p := ⟨b, off + k * 2, none⟩) hb).trans (hc k l[k].row (by simp [hlt]) 0 _ rfl)
    have d1 := (hbel.cell (p := ⟨b, off + k * 2 + 1, none⟩) hb).trans (hc k l[k].row (by simp [hlt]) 1 _ rfl)
    have hx := HOK.out l[k] (List.getElem_mem hlt)
    have tk : ((k : Nat) : Int) < (l.length : Int) := by omega
    have HK := Lib.hid hlt
    generalize l[k] = x at *
    obtain ⟨xn, xc⟩ := x
    simp only at d0 d1 hx
    have HN := Lib.hid (fun W => markName_any xn W)
    have HC := Lib.hid (fun W => cnt_any xc W)
    rw [hx.1] at HN
    rw [hx.2] at HC
    have HBX := Lib.hid (one_below wr (.cells #[.string xn, .int .i64 xc] 59))
    have HXB := Lib.hid (heap_alloc_new wr (.cells #[.string xn, .int .i64 xc] 59))
    have HBW := Lib.hid (HB.out.trans (HBX.out.mono HB.out.size))
    clear hc hb hbel hk hlt hx
    go_wp2_with (first
      | ((with_reducible refine (HN.out _).mono ?_); rintro e w3 ⟨rfl, hb3⟩; have HB3 := Lib.hid (HBW.out.trans (hb3.mono HBW.out.size)); have e1 := cell_blk (blk hb3 (lt_blk HXB.out) HXB.out) 1; clear hb3)
      | ((with_reducible refine (HC.out _).mono ?_); rintro e w4 ⟨rfl, hb4⟩; have HB4 := Lib.hid (HB3.out.trans (hb4.mono HB3.out.size)); clear hb4)
      | fail)
    go_roundw
    case rel => exact ⟨k + 1, by have := HK.out; omega, by go_num, HB4.out⟩
    case measure => (have := HK.out; simp [intOf]) <;> omega
  have tk : ¬ (((k : Nat) : Int) < (l.length : Int)) := by omega
  clear hk hlt hbel
  go_wp2_with fail
  go_ret
  exact retB rfl HB.out
end
end Go.Proofs.YtnbhneeohkfocaaDoor.Sc
