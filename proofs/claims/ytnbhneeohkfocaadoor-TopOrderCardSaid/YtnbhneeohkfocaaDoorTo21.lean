/- Left: what the parts of an order leave of it, which is nothing; by the program. Value: what a part of an order is worth; by the program. small, where there are no tables of goods. counts: the base answers; by the program. -/
import Derived.Test.YtnbhneeohkfocaaDoorTo19
import Derived.Test.YtnbhneeohkfocaaDoorTo06
import Derived.Test.YtnbhneeohkfocaaDoorTo13
import Derived.Test.YtnbhneeohkfocaaDoorTo10
import Derived.OwnWalk
namespace Go.Proofs.YtnbhneeohkfocaaDoor.Sc
open Go Go.RowKit Go.ChangeShapes Go.WideShapes Go.ChangeAt
set_option maxRecDepth 100000

theorem lts_oneO (l : List Lt) : ∀ u ∈ ltCells l, u.oneCell' = true := by
  intro u hu
  obtain ⟨x, -, hx⟩ := List.mem_flatMap.1 hu
  simp only [Lt.row, List.mem_cons, List.not_mem_nil, or_false] at hx
  rcases hx with rfl | rfl <;> rfl
/-- What Left tells. -/
def LeftP (w : World) (e : Ending) (w' : World) : Prop := ∃ a c, e = .returned (.tuple #[.slice a 0 c, .int .i64 0]) ∧ Below w.heap.size w w'
theorem sentP_succ (k : Nat) (L : List Ln) (p : Nat → Nat → Int) : sentP (k + 1) L p = sentP k L p ++ lotsP L 0 (p k) := by
  simp [sentP, List.range_succ]
theorem sentP_len (k : Nat) (L : List Ln) (p : Nat → Nat → Int) : (sentP k L p).length ≤ k * L.length := by
  induction k with
  | zero => simp [sentP]
  | succ k ih => rw [sentP_succ, List.length_append, Nat.add_mul]; have := lotsP_len L 0 (p k); omega
theorem sentP_cnt {L : List Ln} {n : Nat} {p : Nat → Nat → Int} (h : LnsOk L) (hp : PtsOk L n p) : ∀ x ∈ sentP n L p, x.cnt ≤ 1099511627776 := by
  intro x hx
  obtain ⟨i, hi, hx⟩ := List.mem_flatMap.1 hx
  have := (lotsP_ok h hp (List.mem_range.1 hi) x hx).1.2
  simp only [cntO, Bool.and_eq_true, decide_eq_true_eq] at this
  omega
theorem lot_cnt {L : List Ln} (h : LnsOk L) : ∀ x ∈ L.map Ln.lot, x.cnt ≤ 1099511627776 := by
  intro x hx
  obtain ⟨y, hy, rfl⟩ := List.mem_map.1 hx
  have := (h.c0 y hy).2
  simp only [Ln.lot]
  omega
set_option maxHeartbeats 8000000 in
theorem left_any (s0 s1 s2 s3 s4 s5 : ByteArray) (tm : Int) (L : List Ln) (a : Option Addr) (c n : Nat) (p : Nat → Nat → Int) (lc : List Con) (a9 : Option Addr) (c9 : Nat) (w : World)
    (hs : Sl w 3 (.slice a L.length c) (L.map Ln.row)) (hm : mayO s0 s1 s2 s3 s4 s5 tm L = true) (hp : PtsOk L n p) (hlc : lc.length = n) (hc : Sl w 4 (.slice a9 lc.length c9) (lc.map Con.row))
    (hg : ∀ i (h : i < lc.length), lc[i].nm = s0 ∧ Sl w 2 lc[i].lots ((lotsP L 0 (p i)).map Lt.row)) :
    Calls Tryd.prog 8 #[.agg #[.string s0, .string s1, .string s2, .string s3, .string s4, .string s5, .int .i64 tm, .slice a L.length c], .slice a9 lc.length c9] w (LeftP w) := by
  obtain ⟨hok, -⟩ := mayO_ok hm
  have HBX := Lib.hid (one_below w (.cells #[.string s0, .string s1, .string s2, .string s3, .string s4, .string s5, .int .i64 tm, .slice a L.length c] 24))
  have HXB := Lib.hid (heap_alloc_new w (.cells #[.string s0, .string s1, .string s2, .string s3, .string s4, .string s5, .int .i64 tm, .slice a L.length c] 24))
  have HCH := Lib.hid (checks_none s0 s1 s2 s3 s4 s5 tm L a c lc a9 c9 _ (hs.below HBX.out (Nat.le_refl _)) hm (hc.below HBX.out (Nat.le_refl _)) (by
    intro x hx
    obtain ⟨i, hi, rfl⟩ := List.getElem_of_mem hx
    obtain ⟨g1, g2⟩ := hg i hi
    have g3 := lotsP_ok hok hp (show i < n by omega)
    have g4 := g2.below HBX.out (Nat.le_refl _)
    have g5 := lotsP_len L 0 (p i)
    exact ⟨⟨g1, _, g4, fun y hy => (g3 y hy).1, by have := hok.hi; omega⟩, ⟨_, g4, fun y hy => (g3 y hy).2⟩⟩))
  have HS := Lib.hid hs
  have HC := Lib.hid hc
  have HG := Lib.hid hg
  have HOK := Lib.hid hok
  have HP := Lib.hid hp
  have hn2 : lc.length ≤ 2 := by have := hp.n2; omega
  have hl64 := hok.hi
  have HLC := Lib.hid hlc
  obtain ⟨i1, hi, hz, hsz, hby⟩ := info_parts infoLt
  have HI := Lib.hid (And.intro hi (And.intro hz (And.intro hsz hby)))
  clear hs hm hp hlc hc hg hok hi hz hsz hby
  go_enter Tryd.func8, Tryd.ntmps8
  go_wp2_with (first
    | ((with_reducible refine HCH.out.mono ?_); rintro e w5 ⟨rfl, hb5⟩; have HB5 := Lib.hid (HBX.out.trans (hb5.mono HBX.out.size)); have c7 := cell_blk (blk hb5 (lt_blk HXB.out) HXB.out) 7; clear hb5)
    | fail)
  clear c7
  go_loopw [7, 10, 24] (fun v _ i wr => ∃ k : Nat, k ≤ L.length ∧ i = .int .i64 k ∧ wr.ownsRow w.heap.size 59 2 v ((L.take k).map Ln.lot).length (ltCells ((L.take k).map Ln.lot)) ∧ Below w.heap.size w wr) (fun _ _ i _ => L.length - (intOf i).toNat)
  case atStart => exact ⟨0, Nat.zero_le _, rfl, own_nilO _ _ _ _, HB5.out⟩
  case round =>
  obtain ⟨k, hk, rfl, hown, hbel⟩ := hrel
  have HBE := Lib.hid hbel
  have HOW := Lib.hid hown
  clear hown
  by_cases hlt : k < L.length
  · obtain ⟨b, off, rfl, hb, h0, h1, h2⟩ := ln_at HS.out hlt
    have d0 := (hbel.cell (p := ⟨b, off + k * 3, none⟩) hb).trans h0
    have d1 := (hbel.cell (p := ⟨b, off + k * 3 + 1, none⟩) hb).trans h1
    have d2 := (hbel.cell (p := ⟨b, off + k * 3 + 2, none⟩) hb).trans h2
    have tk : ((k : Nat) : Int) < (L.length : Int) := by omega
    have HTK : Hid ((L.take (k + 1)).map Ln.lot = (L.take k).map Ln.lot ++ [Ln.lot L[k]]) := Lib.hid (by rw [List.take_succ_eq_append_getElem hlt, List.map_append]; rfl)
    have HK := Lib.hid hlt
    have hlk : ((L.take k).map Ln.lot).length ≤ 64 := by simp; omega
    generalize L[k] = x at *
    obtain ⟨xg, xc, xp⟩ := x
    generalize (L.take k).map Ln.lot = P at *
    obtain ⟨wa, hwa⟩ : ∃ x, x = wr.alloc (.cells #[.string xg, .int .i64 xc, .int .i64 xp] 34) := ⟨_, rfl⟩
    have HBW : Hid (Below wr.heap.size wr wa) := Lib.hid (hwa ▸ one_below wr _)
    have c20 : wa.cell? ⟨wr.heap.size, 0, none⟩ = some (.string xg) := cell_blk (hwa ▸ heap_alloc_new wr _) 0
    have c21 : wa.cell? ⟨wr.heap.size, 1, none⟩ = some (.int .i64 xc) := cell_blk (hwa ▸ heap_alloc_new wr _) 1
    have ew := hwa.symm
    have HBA := Lib.hid (HBE.out.trans (HBW.out.mono HBE.out.size))
    have HOA := Lib.hid (ownsRow_below HOW.out HBW.out)
    have HL1 : Hid (P.length + 1 ≤ maxLen ∧ (P.length + 1) * 24 ≤ 140737488355328 ∧ w.heap.size ≤ wa.heap.size) := Lib.hid (by have := HBA.out.size; simp only [maxLen]; omega)
    clear hwa h0 h1 h2 hb hbel hk hlt hlk
    go_wp2_with (first
      | (((with_reducible refine Any.wpl_push ?_ ?_ ?_ Tryd.underlying39 HI.out.1 HI.out.2.1 HI.out.2.2.1 HI.out.2.2.2 ?_ (by decide) ?_ ((lt_one xg xc)) (HOA.out) HL1.out.1 HL1.out.2.1 HL1.out.2.2 ?_); rfl; rfl; rfl; rfl; rfl; intro v4 w4 hown4 hgrow4 hwho4); have HO4 := Lib.hid hown4; have HB4 := Lib.hid (HBA.out.grown hgrow4 HBA.out.size (fun k hk => (HOA.out.lt k hk).1)); clear hown4 hgrow4 hwho4)
      | fail)
    go_roundw
    case rel => exact ⟨k + 1, by have := HK.out; omega, by go_num, by rw [HTK.out, List.length_append, ltCells_append]; exact HO4.out, HB4.out⟩
    case measure => (have := HK.out; simp [intOf]) <;> omega
  obtain rfl : k = L.length := by omega
  rw [List.take_length] at HOW
  have tk : ¬ (((L.length : Nat) : Int) < (L.length : Int)) := by omega
  obtain ⟨wq, rfl⟩ : ∃ W, W = wr := ⟨_, rfl⟩
  clear hk hlt hbel
  go_wp2_with fail
  clear tk
  go_loopw [8, 12, 39] (fun u _ i wr => ∃ k : Nat, k ≤ lc.length ∧ i = .int .i64 k ∧ wr.ownsRow wq.heap.size 59 2 u (sentP k L p).length (ltCells (sentP k L p)) ∧ Below wq.heap.size wq wr) (fun _ _ i _ => lc.length - (intOf i).toNat)
  case atStart => exact ⟨0, Nat.zero_le _, rfl, own_nilO _ _ _ _, Below.refl _ _⟩
  case round =>
  obtain ⟨k, hk, rfl, hown, hbel⟩ := hrel
  have HBR := Lib.hid hbel
  have HOR := Lib.hid hown
  clear hown
  by_cases hlt : k < lc.length
  · obtain ⟨b, off, rfl, hb, hp⟩ := con_at HC.out hlt
    have hbw : Below w.heap.size w wr := HBE.out.trans (hbel.mono HBE.out.size)
    obtain ⟨d0, d1, d2, d3⟩ := hp.below hb hbw
    have hx := (HG.out k hlt).2.below hbw (Nat.le_refl _)
    have tk : ((k : Nat) : Int) < (lc.length : Int) := by omega
    have HTK := Lib.hid (sentP_succ k L p)
    have hlk := sentP_len k L p
    have hlx := lotsP_len L 0 (p k)
    have HK := Lib.hid hlt
    generalize lc[k] = x at *
    obtain ⟨xn, xm, xl, xv⟩ := x
    simp only at d0 d1 d2 d3 hx
    generalize lotsP L 0 (p k) = Q at *
    generalize sentP k L p = P at *
    obtain ⟨ax, cx, rfl⟩ : ∃ a c, xv = .slice a Q.length c := by simpa using hx.shape
    have al := one_below wr (.cells #[.string xn, .int .i64 xm, .int .i64 xl, .slice ax Q.length cx] 43)
    have HSRC : Hid (Src (wr.alloc (.cells #[.string xn, .int .i64 xm, .int .i64 xl, .slice ax Q.length cx] 43)) 2 (.slice ax Q.length cx) Q.length (ltCells Q)) := Lib.hid (src_ltks (hx.below al (Nat.le_refl _)))
    have HOA := Lib.hid (ownsRow_below HOR.out al)
    have HBA := Lib.hid (HBR.out.trans (al.mono HBR.out.size))
    have HLE : Hid (P.length + Q.length ≤ maxLen ∧ (P.length + Q.length) * 24 ≤ 140737488355328) := Lib.hid (by
      have : k * L.length ≤ 2 * 64 := Nat.mul_le_mul (by omega) hl64
      simp only [maxLen]; omega)
    clear hb hp hbw hbel hx hk hlt hlk hlx al
    go_wp2_with (first
      | ((with_reducible refine Any.wpl_cat ?_ ?_ ?_ Tryd.underlying39 HI.out.1 HI.out.2.1 HI.out.2.2.1 HI.out.2.2.2 ?_ (by decide) HOA.out HSRC.out (lts_oneO _) HLE.out.1 HLE.out.2 HBA.out.size ?_); rfl; rfl; rfl; rfl; intro v2 w2 hown2 hgrow2 hwho2; rw [← ltCells_append, ← List.length_append] at hown2; have HOW2 := Lib.hid hown2; have HB2 := Lib.hid (HBA.out.grown hgrow2 HBA.out.size (fun k hk => (HOA.out.lt k hk).1)); clear hown2 hgrow2 hwho2; go_frame)
      | fail)
    go_roundw
    case rel => exact ⟨k + 1, by have := HK.out; omega, by go_num, by rw [HTK.out]; exact HOW2.out, HB2.out⟩
    case measure => (have := HK.out; simp [intOf]) <;> omega
  obtain rfl : k = lc.length := by omega
  have tk : ¬ (((lc.length : Nat) : Int) < (lc.length : Int)) := by omega
  rw [HLC.out] at HOR
  obtain ⟨hcan, hleft⟩ := left_none (l := L.map Ln.lot) (m := sentP n L p) (fun g => sentP_tot HP.out g)
  have HCAN := Lib.hid hcan
  have HLN := Lib.hid hleft
  have HT := Lib.hid (take_any (L.map Ln.lot) (sentP n L p) _ _ wr (own_ltks (ownsRow_below HOW.out HBR.out) rfl) (own_ltks HOR.out rfl) (by simp; omega) (by have := sentP_len n L p; have := HP.out.n2; have : n * L.length ≤ 2 * 64 := Nat.mul_le_mul (by omega) hl64; omega)
    (fun g => by have := posTot_le (lot_cnt HOK.out) g; have : ((L.map Ln.lot).length : Int) ≤ 64 := by simp; omega
                 omega)
    (fun g => by have := posTot_le (sentP_cnt HOK.out HP.out) g; have h1 := sentP_len n L p; have := HP.out.n2; have h3 : n * L.length ≤ 2 * 64 := Nat.mul_le_mul (by omega) hl64
                 omega))
  obtain ⟨a7, c7, rfl⟩ := own_shpO HOW.out
  obtain ⟨a8, c8, rfl⟩ := own_shpO HOR.out
  generalize L.map Ln.lot = P at *
  generalize sentP n L p = Q at *
  clear hk hlt hbel hcan hleft
  go_wp2_with (first
    | ((with_reducible refine HT.out.mono ?_); rintro e w7 (⟨-, v7, rfl, ho7, hb7⟩ | ⟨hno, -⟩)
       rotate_left
       · exact absurd HCAN.out hno
       rw [HLN.out] at ho7
       obtain ⟨a6, c6, rfl⟩ := own_shpO ho7
       have HB7 := Lib.hid ((HBE.out.trans (HBR.out.mono HBE.out.size)).trans (hb7.mono (Nat.le_trans HBE.out.size HBR.out.size)))
       clear ho7 hb7)
    | fail)
  go_ret2
  exact ⟨_, _, rfl, HB7.out⟩
end Go.Proofs.YtnbhneeohkfocaaDoor.Sc
namespace Go.Proofs.YtnbhneeohkfocaaDoor.Sc
open Go Go.RowKit Go.ChangeShapes Go.WideShapes Go.ChangeAt
set_option maxRecDepth 100000

theorem one_con (w : World) (x : Con) : Sl (w.alloc (.cells x.cells 43)) 4 (.slice (some ⟨w.heap.size, 0, none⟩) [x].length 1) ([x].map Con.row) := by
  have hx := heap_alloc_new w (.cells x.cells 43)
  refine .inr ⟨w.heap.size, 0, 1, rfl, lt_blk hx, Nat.le_refl _, by decide, fun i r hi j u hj => ?_⟩
  match i, hi with
  | 0, hi =>
    cases hi
    rw [cell_blk hx]
    simp only [Nat.zero_add, Nat.zero_mul]
    rw [Con.row] at hj
    rw [← hj]
    simp
  | i + 1, hi => cases hi
set_option maxHeartbeats 8000000 in
theorem value_any (s0 s1 s2 s3 s4 s5 : ByteArray) (tm : Int) (L : List Ln) (a : Option Addr) (c : Nat) (l : List Lt) (a2 : Option Addr) (c2 : Nat) (num lat : Int) (w : World)
    (hs : Sl w 3 (.slice a L.length c) (L.map Ln.row)) (hm : mayO s0 s1 s2 s3 s4 s5 tm L = true) (hx : Sl w 2 (.slice a2 l.length c2) (l.map Lt.row))
    (hl : ∀ y ∈ l, (nameOk y.good = true ∧ cntO y.cnt = true) ∧ ∃ z ∈ L, z.good = y.good) (h64 : l.length ≤ 64) (hv : valO L l ≤ 1099511627776) :
    Calls Tryd.prog 9 #[.agg #[.string s0, .string s1, .string s2, .string s3, .string s4, .string s5, .int .i64 tm, .slice a L.length c], .agg #[.string s0, .int .i64 num, .int .i64 lat, .slice a2 l.length c2]] w (Ret w (.tuple #[.int .i64 (valO L l), .int .i64 0])) := by
  obtain ⟨hok, -⟩ := mayO_ok hm
  obtain ⟨bo, hbo⟩ : ∃ b, b = w.heap.size := ⟨_, rfl⟩
  obtain ⟨bn, hbn⟩ : ∃ b, b = w.heap.size + 1 := ⟨_, rfl⟩
  obtain ⟨w2, hw2⟩ : ∃ W, (w.alloc (.cells #[.string s0, .string s1, .string s2, .string s3, .string s4, .string s5, .int .i64 tm, .slice a L.length c] 24)).alloc (.cells #[.string s0, .int .i64 num, .int .i64 lat, .slice a2 l.length c2] 43) = W := ⟨_, rfl⟩
  have e1 := one_below w (.cells #[.string s0, .string s1, .string s2, .string s3, .string s4, .string s5, .int .i64 tm, .slice a L.length c] 24)
  have hb2 : Below w.heap.size w w2 := by rw [← hw2]; exact e1.trans ((one_below _ _).mono e1.size)
  have hxo : w2.heap[bo]? = some (.cells #[.string s0, .string s1, .string s2, .string s3, .string s4, .string s5, .int .i64 tm, .slice a L.length c] 24 (0, 0)) := by
    rw [← hw2, hbo]; exact blk (one_below _ _) (by simp) (heap_alloc_new w _)
  have hxn : w2.heap[bn]? = some (.cells #[.string s0, .int .i64 num, .int .i64 lat, .slice a2 l.length c2] 43 (0, 0)) := by
    rw [← hw2, hbn]
    have := heap_alloc_new (w.alloc (.cells #[.string s0, .string s1, .string s2, .string s3, .string s4, .string s5, .int .i64 tm, .slice a L.length c] 24)) (.cells #[.string s0, .int .i64 num, .int .i64 lat, .slice a2 l.length c2] 43)
    simpa using this
  obtain ⟨w3, hw3⟩ : ∃ W, w2.alloc (.cells #[.string s0, .int .i64 num, .int .i64 lat, .slice a2 l.length c2] 43) = W := ⟨_, rfl⟩
  have hb23 : Below w2.heap.size w2 w3 := hw3 ▸ one_below _ _
  have hb3 : Below w.heap.size w w3 := hb2.trans (hb23.mono hb2.size)
  have hc1 : Sl w3 4 (.slice (some ⟨w2.heap.size, 0, none⟩) [(⟨s0, num, lat, .slice a2 l.length c2⟩ : Con)].length 1) ([(⟨s0, num, lat, .slice a2 l.length c2⟩ : Con)].map Con.row) := hw3 ▸ one_con w2 _
  have HCH : Hid (Calls Tryd.prog 24 #[.agg #[.string s0, .string s1, .string s2, .string s3, .string s4, .string s5, .int .i64 tm, .slice a L.length c], .slice (some ⟨w2.heap.size, 0, none⟩) 1 1] w3 (Ret w3 (.int .i64 0))) := Lib.hid (checks_none s0 s1 s2 s3 s4 s5 tm L a c [(⟨s0, num, lat, .slice a2 l.length c2⟩ : Con)] (some ⟨w2.heap.size, 0, none⟩) 1 w3 (hs.below hb3 (Nat.le_refl _)) hm hc1 (by
    intro x hx'
    obtain rfl := List.mem_singleton.1 hx'
    exact ⟨⟨rfl, l, hx.below hb3 (Nat.le_refl _), fun y hy => (hl y hy).1, h64⟩, ⟨l, hx.below hb3 (Nat.le_refl _), fun y hy => (hl y hy).2⟩⟩))
  have HBG := Lib.hid (fun W (hW : Below w.heap.size w W) => byGoodO_any s0 s1 s2 s3 s4 s5 tm L (.slice a L.length c) W (hs.below hW (Nat.le_refl _)) hok)
  have HXO := Lib.hid hxo
  have HXN := Lib.hid hxn
  have HB23 := Lib.hid hb23
  have HB3 := Lib.hid hb3
  have HX := Lib.hid hx
  have HOK := Lib.hid hok
  have HL := Lib.hid hl
  have HV := Lib.hid hv
  have HW2 := Lib.hid hw2
  have HW3 := Lib.hid hw3
  have HBO := Lib.hid hbo
  have HBN := Lib.hid hbn
  have x0 := cell_blk hxo 0
  have x1 := cell_blk hxo 1
  have x2 := cell_blk hxo 2
  have x3 := cell_blk hxo 3
  have x4 := cell_blk hxo 4
  have x5 := cell_blk hxo 5
  have x6 := cell_blk hxo 6
  have x7 := cell_blk hxo 7
  have n0 := cell_blk hxn 0
  have n1 := cell_blk hxn 1
  have n2 := cell_blk hxn 2
  have n3 := cell_blk hxn 3
  clear hs hm hx hl hv hok hbo hbn hw2 e1 hb2 hxo hxn hw3 hb23 hb3 hc1
  go_enter Tryd.func9, Tryd.ntmps9
  go_upto_region 1 with fail
  rw [HW2.out, ← HBN.out, ← HBO.out]
  go_upto_region 4 with (first
    | (rw [HW3.out]; (with_reducible refine HCH.out.mono ?_); rintro e w5 ⟨rfl, hb5⟩; have HB5 := Lib.hid hb5; clear hb5)
    | fail)
  clear x0 x1 x2 x3 x4 x5 x6 x7 n0 n1 n2 n3
  have hb25 : Below w2.heap.size w2 w5 := HB23.out.trans (HB5.out.mono HB23.out.size)
  have hxo := blk hb25 (lt_blk HXO.out) HXO.out
  have hxn := blk hb25 (lt_blk HXN.out) HXN.out
  have HXN5 := Lib.hid hxn
  have HB05 := Lib.hid (HB3.out.trans (HB5.out.mono HB3.out.size))
  have HBG5 := Lib.hid (HBG.out w5 HB05.out)
  have x0 := cell_blk hxo 0
  have x1 := cell_blk hxo 1
  have x2 := cell_blk hxo 2
  have x3 := cell_blk hxo 3
  have x4 := cell_blk hxo 4
  have x5 := cell_blk hxo 5
  have x6 := cell_blk hxo 6
  have x7 := cell_blk hxo 7
  clear hb25 hxo hxn HBG
  go_upto_region 5 with (first
    | ((with_reducible refine HBG5.out.mono ?_); rintro e w6 ⟨bm, rfl, hbm, hmp, hb6⟩; have HXN6 := Lib.hid (blk hb6 (lt_blk HXN5.out) HXN5.out); have HB06 := Lib.hid (HB05.out.trans (hb6.mono HB05.out.size)); have HMP := Lib.hid hmp; clear hbm hmp hb6)
    | fail)
  clear x0 x1 x2 x3 x4 x5 x6 x7
  have n3 := cell_blk HXN6.out 3
  go_wp2_with fail
  clear n3
  go_loopw [8, 10, 23] (fun s _ i wr => ∃ k : Nat, k ≤ l.length ∧ i = .int .i64 k ∧ s = .int .i64 (valO L (l.take k)) ∧ Mp.MapAt wr bm (entsL L) ∧ Below w.heap.size w wr) (fun _ _ i _ => l.length - (intOf i).toNat)
  case atStart => exact ⟨0, Nat.zero_le _, rfl, rfl, HMP.out, HB06.out⟩
  case round =>
  obtain ⟨k, hk, rfl, rfl, hmp, hbel⟩ := hrel
  have HBE := Lib.hid hbel
  have HM := Lib.hid hmp
  clear hmp
  by_cases hlt : k < l.length
  · obtain ⟨b, off, rfl, hb, hp⟩ := ltk_at HX.out hlt
    obtain ⟨d0, d1⟩ := hp.below hb hbel
    have tk : ((k : Nat) : Int) < (l.length : Int) := by omega
    have hsn : valO L (l.take (k + 1)) = valO L (l.take k) + l[k].cnt * prcO L l[k].good := by rw [List.take_succ_eq_append_getElem hlt, valO_app]; simp [valO]
    have hn : ∀ y ∈ l, 0 ≤ y.cnt := fun y hy => by have := (HL.out y hy).1.2; simp only [cntO, Bool.and_eq_true, decide_eq_true_eq] at this; omega
    have hv1 : 0 ≤ valO L (l.take k) := valO_nn HOK.out fun y hy => hn y (List.mem_of_mem_take hy)
    have hv2 : valO L (l.take (k + 1)) ≤ 1099511627776 := by
      have h1 := HV.out
      have h2 : 0 ≤ valO L (l.drop (k + 1)) := valO_nn HOK.out fun y hy => hn y (List.mem_of_mem_drop hy)
      have h3 := valO_app L (l.take (k + 1)) (l.drop (k + 1))
      rw [List.take_append_drop] at h3
      omega
    have hv3 : valO L (l.take k) ≤ valO L (l.take (k + 1)) := by
      have h2 : 0 ≤ valO L [l[k]] := valO_nn HOK.out fun y hy => by rw [List.mem_singleton.1 hy]; exact hn _ (List.getElem_mem hlt)
      simp only [valO] at h2
      omega
    obtain ⟨-, z, hz, hzg⟩ := HL.out l[k] (List.getElem_mem hlt)
    have hgt := get_entsL HOK.out.nd hz
    have hpr := prcO_of HOK.out.nd hz
    rw [hzg] at hgt hpr
    rw [hpr] at hsn
    have HSN := Lib.hid hsn
    have HK := Lib.hid hlt
    generalize l[k] = x at *
    obtain ⟨xg, xc⟩ := x
    obtain ⟨zg, zc, zp⟩ := z
    simp only [Ln.cells] at d0 d1 hgt hsn HSN
    generalize valO L (l.take k) = s at *
    obtain ⟨m, hm⟩ : ∃ m, xc * zp = m := ⟨_, rfl⟩
    rw [hm] at hsn HSN
    have e1 : wrap64 (xc * zp) = m := by rw [hm]; exact IntWalk.wrap64_in _ (by omega)
    have e2 : wrap64 (s + m) = s + m := IntWalk.wrap64_in _ (by omega)
    have HE2 := Lib.hid e2
    have t1 : decide (1099511627776 < s + m) = false := decide_eq_false (by omega)
    have HGV : Hid ((Mp.mget (entsL L) xg).getD (.agg #[.string ⟨#[]⟩, .int .i64 0, .int .i64 0]) = .agg #[.string zg, .int .i64 zc, .int .i64 zp]) := Lib.hid (by rw [hgt]; rfl)
    have tf : ∀ W : World, (Instr.field 34 (.agg #[.string zg, .int .i64 zc, .int .i64 zp]) 2).run Tryd.prog W = .ok (.int .i64 zp) W := fun W => by kernel_rfl
    have HBX := Lib.hid (one_below wr (.cells #[.string xg, .int .i64 xc] 59))
    have HMX := Lib.hid (HM.out.same (HBX.out.block bm HM.out.lt))
    generalize entsL L = E at *
    clear hb hp hbel hsn hn hv1 hv2 hv3 hz hzg hgt hpr hm hk hlt
    go_wp2_with (first
      | ((with_reducible refine Mp.wpl_val (b := bm) (l := E) (key := xg) (v := .agg #[.string zg, .int .i64 zc, .int .i64 zp]) ?_ ?_ ?_ Tryd.underlying63 Tryd.underlying9 (zeroLine _) HMX.out HGV.out ?_); rfl; rfl; rfl)
      | fail)
    go_roundw
    case rel => exact ⟨k + 1, by have := HK.out; omega, by go_num, by first | (rw [HSN.out, HE2.out]) | rw [HSN.out], HMX.out, HBE.out.trans (HBX.out.mono HBE.out.size)⟩
    case measure => (have := HK.out; simp [intOf]) <;> omega
  obtain rfl : k = l.length := by omega
  have tk : ¬ (((l.length : Nat) : Int) < (l.length : Int)) := by omega
  rw [List.take_length]
  generalize valO L l = s at *
  clear hk hlt hbel
  go_wp2_with fail
  go_ret2
  exact ⟨rfl, HBE.out⟩
end Go.Proofs.YtnbhneeohkfocaaDoor.Sc
namespace Go.Proofs.YtnbhneeohkfocaaDoor.Sc
open Go Go.RowKit Go.ChangeShapes Go.WideShapes Go.ChangeAt
set_option maxRecDepth 100000

set_option maxHeartbeats 8000000 in
theorem small_any (s0 s1 s2 s3 s4 s5 : ByteArray) (tm : Int) (L : List Ln) (v : Value) (w : World) (hs : Sl w 3 v (L.map Ln.row)) :
    Calls Tryd.prog 5 #[.agg #[.string s0, .string s1, .string s2, .string s3, .string s4, .string s5, .int .i64 tm, v]] w (FewP w (L.length ≤ 12)) := by
  have hll : L.length ≤ 9223372036854775807 := by have := hs.len_le; simp only [List.length_map, maxLen] at this; omega
  obtain ⟨a, c, rfl⟩ : ∃ a c, v = .slice a L.length c := by simpa using hs.shape
  have HS := Lib.hid hs
  clear hs
  go_enter Tryd.func5, Tryd.ntmps5
  go_wp2_with fail
  generalize wrap64 (wrap64 (wrap64 (wrap64 (wrap64 (↑s0.size + ↑s1.size) + ↑s2.size) + ↑s3.size) + ↑s4.size) + ↑s5.size) = n0
  have HX := Lib.hid (heap_alloc_new w (.cells #[.string s0, .string s1, .string s2, .string s3, .string s4, .string s5, .int .i64 tm, .slice a L.length c] 24))
  have HB0 := Lib.hid (one_below w (.cells #[.string s0, .string s1, .string s2, .string s3, .string s4, .string s5, .int .i64 tm, .slice a L.length c] 24))
  have HLT : Hid (w.heap.size < (w.alloc (.cells #[.string s0, .string s1, .string s2, .string s3, .string s4, .string s5, .int .i64 tm, .slice a L.length c] 24)).heap.size) := Lib.hid (by simp)
  generalize w.alloc (.cells #[.string s0, .string s1, .string s2, .string s3, .string s4, .string s5, .int .i64 tm, .slice a L.length c] 24) = w0 at *
  go_loopw [3, 32] (fun s i wr => ∃ (k : Nat) (n : Int), k ≤ L.length ∧ i = .int .i64 k ∧ s = .int .i64 n ∧ Below w0.heap.size w0 wr) (fun _ i _ => L.length - (intOf i).toNat)
  case atStart => exact ⟨0, _, Nat.zero_le _, rfl, rfl, Below.refl _ _⟩
  case round =>
    obtain ⟨k, n, hk, rfl, rfl, hbel⟩ := hrel
    have HBEL := Lib.hid hbel
    by_cases hlt : k < L.length
    · obtain ⟨b, off, rfl, hb, h0, h1, h2⟩ := ln_at HS.out hlt
      have d0 := (hbel.cell (p := ⟨b, off + k * 3, none⟩) (Nat.lt_of_lt_of_le hb HB0.out.size)).trans ((HB0.out.cell (p := ⟨b, off + k * 3, none⟩) hb).trans h0)
      have d1 := (hbel.cell (p := ⟨b, off + k * 3 + 1, none⟩) (Nat.lt_of_lt_of_le hb HB0.out.size)).trans ((HB0.out.cell (p := ⟨b, off + k * 3 + 1, none⟩) hb).trans h1)
      have d2 := (hbel.cell (p := ⟨b, off + k * 3 + 2, none⟩) (Nat.lt_of_lt_of_le hb HB0.out.size)).trans ((HB0.out.cell (p := ⟨b, off + k * 3 + 2, none⟩) hb).trans h2)
      have tk : ((k : Nat) : Int) < (L.length : Int) := by omega
      clear h0 h1 h2 hb hbel
      generalize L[k] = y at *
      obtain ⟨yg, yc, yp⟩ := y
      simp only at d0 d1 d2
      go_wp2_with fail
      go_roundw
      case rel => exact ⟨k + 1, _, by omega, by go_num, rfl, HBEL.out.trans ((one_below wr _).mono HBEL.out.size)⟩
      case measure => (simp [intOf]) <;> omega
    · obtain rfl : k = L.length := by omega
      obtain ⟨x0, x1, x2, x3, x4, x5, x6, x7⟩ : wr.cell? ⟨w.heap.size, 0, none⟩ = some (.string s0) ∧ True ∧ True ∧ True ∧ True ∧ True ∧ True ∧ wr.cell? ⟨w.heap.size, 7, none⟩ = some (.slice a L.length c) := by
        have hx := blk hbel HLT.out HX.out
        exact ⟨cell_blk hx 0, trivial, trivial, trivial, trivial, trivial, trivial, cell_blk hx 7⟩
      have HBZ := Lib.hid (HB0.out.trans (hbel.mono HB0.out.size))
      clear hbel x0 x1 x2 x3 x4 x5 x6
      by_cases h1 : n ≤ 500
      · have t1 : decide (n ≤ 500) = true := decide_eq_true h1
        clear h1
        by_cases h2 : L.length ≤ 12
        · have t2 : decide ((L.length : Int) ≤ 12) = true := decide_eq_true (by omega)
          have t3 : decide (L.length ≤ 12) = true := decide_eq_true h2
          have H2 := Lib.hid h2
          clear h2
          go_wp2_with fail
          go_ret
          exact ⟨true, rfl, fun _ => H2.out, HBZ.out⟩
        · have t2 : decide ((L.length : Int) ≤ 12) = false := decide_eq_false (by omega)
          have t3 : decide (L.length ≤ 12) = false := decide_eq_false h2
          clear h2
          go_wp2_with fail
          go_ret
          exact ⟨false, rfl, by simp, HBZ.out⟩
      · have t1 : decide (n ≤ 500) = false := decide_eq_false h1
        clear h1
        go_wp2_with fail
        go_ret
        exact ⟨false, rfl, by simp, HBZ.out⟩
end Go.Proofs.YtnbhneeohkfocaaDoor.Sc
namespace Go.Proofs.YtnbhneeohkfocaaDoor.Sc
open Go Go.RowKit Go.ChangeShapes Go.WideShapes Go.ChangeAt Go.Sort Go.Shelf
set_option maxRecDepth 100000

theorem split_ten : splitS 10 [1, 1, 1] = [4, 3, 3] := by decide +kernel
theorem sl_ones (w : World) : Sl (w.alloc (.cells #[.int .i64 1, .int .i64 1, .int .i64 1] 2)) 1 (.slice (some ⟨w.heap.size, 0, none⟩) 3 3) ([(1 : Int), 1, 1].map nRow) := by
  have hx := heap_alloc_new w (.cells #[.int .i64 1, .int .i64 1, .int .i64 1] 2)
  refine .inr ⟨w.heap.size, 0, 3, rfl, lt_blk hx, by simp, by decide, fun i r hr j u hu => ?_⟩
  match i, hr with
  | 0, hr =>
    obtain rfl : nRow 1 = r := by simpa using hr
    match j, hu with
    | 0, hu => exact (cell_blk hx _).trans (by simpa [nRow] using hu)
    | m + 1, hu => simp [nRow] at hu
  | 1, hr =>
    obtain rfl : nRow 1 = r := by simpa using hr
    match j, hu with
    | 0, hu => exact (cell_blk hx _).trans (by simpa [nRow] using hu)
    | m + 1, hu => simp [nRow] at hu
  | 2, hr =>
    obtain rfl : nRow 1 = r := by simpa using hr
    match j, hu with
    | 0, hu => exact (cell_blk hx _).trans (by simpa [nRow] using hu)
    | m + 1, hu => simp [nRow] at hu
  | m + 3, hr => simp at hr
set_option maxHeartbeats 4000000 in
theorem ten_any (w : World) : Calls Tryd.prog 4 #[] w (RetB w true) := by
  have HSP := Lib.hid (splitM_any 10 [1, 1, 1] _ _ (sl_ones w) (by decide) (by decide) (by decide) (by decide) (by decide) (by decide))
  have HB := Lib.hid (one_below w (.cells #[.int .i64 1, .int .i64 1, .int .i64 1] 2))
  go_enter Tryd.func4, Tryd.ntmps4
  go_wp2_with (first
    | ((with_reducible refine HSP.out.mono ?_); rintro e w2 ⟨hb2, ⟨h1, _⟩ | ⟨_, p, _, rfl, hp⟩⟩
       · exact absurd rfl h1
       rw [split_ten] at hp
       have c0 := cell_blk hp 0
       have c1 := cell_blk hp 1
       have c2 := cell_blk hp 2
       simp only [List.map_cons, List.map_nil, List.getElem?_toArray, List.getElem?_cons_zero, List.getElem?_cons_succ] at c0 c1 c2
       have HB2 := Lib.hid (HB.out.trans (hb2.mono HB.out.size))
       clear hb2 hp)
    | fail)
  go_ret
  exact retB rfl HB2.out
end Go.Proofs.YtnbhneeohkfocaaDoor.Sc
