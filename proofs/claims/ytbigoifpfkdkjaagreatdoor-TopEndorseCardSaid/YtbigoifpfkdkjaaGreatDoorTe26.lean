/- The register takes its one bill in: a copy of the bill, its entry, the map. Shares: what is wrong first; the sort of the rests; plainly and by the program. -/
import Derived.Test.YtbigoifpfkdkjaaGreatDoorTe25
import Derived.Test.YtbigoifpfkdkjaaGreatDoorTe01
import Derived.Test.YtbigoifpfkdkjaaGreatDoorTe03
import Derived.Test.YtbigoifpfkdkjaaGreatDoorTe23
import Derived.Test.YtbigoifpfkdkjaaGreatDoorTe21
import Derived.Shelf.Abstract
namespace Go.Proofs.YtbigoifpfkdkjaaGreatDoor.Sc
open Go Go.RowKit Go.ChangeShapes Go.WideShapes Go.ChangeAt
set_option maxRecDepth 100000

theorem cpbRes : (Tryz.f70).results = #[.cell 2 57] := by kernel_rfl
/-- A copy of the bill. -/
def CpP (w : World) (m : ByteArray) (e : Ending) (w' : World) : Prop := ∃ a1 c1 a2 c2, e = .returned (.agg (billD (.slice a1 1 c1) (.slice a2 0 c2))) ∧ w'.ownsRow w.heap.size 9 1 (.slice a1 1 c1) 1 [.string m] ∧ Below w.heap.size w w'
set_option maxHeartbeats 4000000 in
theorem copyBill_any (g : Nat) (m : ByteArray) (w : World) (hc : w.cell? ⟨g, 0, none⟩ = some (.string m)) (hg : g < w.heap.size) : Calls Tryz.prog 70 #[.agg (billC (.slice (some ⟨g, 0, none⟩) 1 1))] w (CpP w m) := by
  have hs : Sl w 1 (.slice (some ⟨g, 0, none⟩) 1 1) ([m].map stRow) := .inr ⟨g, 0, 1, rfl, hg, by simp, by decide, fun i r hr j u hu => by
    match i, hr with
    | 0, hr =>
      obtain rfl : stRow m = r := by simpa using hr
      match j, hu with
      | 0, hu =>
        obtain rfl : Value.string m = u := by simpa [stRow] using hu
        exact hc
      | k + 1, hu => simp [stRow] at hu
    | k + 1, hr => simp at hr⟩
  have HC1 := Lib.hid (fun W (hW : Below w.heap.size w W) => cloneStr_any [m] _ W (hs.below hW (Nat.le_refl _)) (by simp))
  have HC2 := Lib.hid (fun W => cloneStr_any [] (.slice none 0 0) W (.inl ⟨rfl, none, 0, rfl, fun _ => rfl⟩) (by simp))
  obtain ⟨w0, hw0⟩ : ∃ x, x = (w.alloc (.cells (billC (.slice (some ⟨g, 0, none⟩) 1 1)) 57 (0, 0))).alloc (.cells #[.string ⟨#[]⟩, .string ⟨#[]⟩, .string ⟨#[]⟩, .string ⟨#[]⟩, .string ⟨#[]⟩, .slice none 0 0, .slice none 0 0, .int .i64 0, .bool false] 57 (0, 0)) := ⟨_, rfl⟩
  have hb0 : Below w.heap.size w w0 := hw0 ▸ (one_below w _).alloc (by simp) _
  have HB0 := Lib.hid hb0
  have HX0 : Hid (w0.heap[w.heap.size]? = some (.cells (billC (.slice (some ⟨g, 0, none⟩) 1 1)) 57 (0, 0))) := Lib.hid (hw0 ▸ blk (one_below _ _) (by simp) (heap_alloc_new w _))
  have HZ0 : Hid (w0.heap[w.heap.size + 1]? = some (.cells #[.string ⟨#[]⟩, .string ⟨#[]⟩, .string ⟨#[]⟩, .string ⟨#[]⟩, .string ⟨#[]⟩, .slice none 0 0, .slice none 0 0, .int .i64 0, .bool false] 57 (0, 0))) := Lib.hid (hw0 ▸ by simpa using heap_alloc_new (w.alloc (.cells (billC (.slice (some ⟨g, 0, none⟩) 1 1)) 57 (0, 0))) _)
  unfold billC at HX0 hw0 ⊢
  have ew := hw0.symm
  have HS0 : Hid (w0.heap.size = w.heap.size + 2) := Lib.hid (by rw [ew.symm]; simp)
  clear hs hc hg hb0 hw0
  have c5 : w0.cell? ⟨w.heap.size, 5, none⟩ = some (.slice (some ⟨g, 0, none⟩) 1 1) := cell_blk HX0.out 5
  go_enter Tryz.func70, Tryz.ntmps70
  go_upto_region 2 with (first
    | ((with_reducible refine (HC1.out _ HB0.out).mono ?_); rintro en w1 ⟨v1, rfl, ho1, hb1⟩; obtain ⟨a1, c1, rfl⟩ := ownsRow_shape ho1; have HO1 := Lib.hid ho1; have HB1 := Lib.hid (HB0.out.trans (hb1.mono HB0.out.size)); have HX1 := Lib.hid (blk hb1 (lt_blk HX0.out) HX0.out); have HZ1 := Lib.hid (blk hb1 (lt_blk HZ0.out) HZ0.out); clear ho1 hb1 c5; have c5 := cell_blk HX1.out 5; have f5 := free_blk HX1.out 5)
    | fail)
  have HX2 : Hid ((w1.setCell ⟨w.heap.size, 5, none⟩ (.slice a1 1 c1)).heap[w.heap.size]? = some (.cells (billD (.slice a1 1 c1) (.slice none 0 0)) 57 (0, 0))) := Lib.hid (by simp [World.setCell, Array.getElem?_modify, HX1.out, billD])
  have HZ2 := Lib.hid ((Below.heap_setCell w1 ⟨w.heap.size, 5, none⟩ (.slice a1 1 c1) (w.heap.size + 1) (by simp)).trans HZ1.out)
  have HK2 : Hid (Keep (fun x => x = w.heap.size) w1 (w1.setCell ⟨w.heap.size, 5, none⟩ (.slice a1 1 c1))) := Lib.hid ((Keep.of_grown (grown_setC w1 w.heap.size 5 _)).mono fun _ _ h => (Option.some.inj h).symm)
  have HO2 := Lib.hid (ownsRow_keep HO1.out HK2.out (fun b hb e => by have h1 := (HO1.out.lt b hb).1; have h2 := HS0.out; omega))
  have HB2 := Lib.hid (HB1.out.setCell (p := ⟨w.heap.size, 5, none⟩) (Nat.le_refl _) (.slice a1 1 c1))
  generalize w1.setCell ⟨w.heap.size, 5, none⟩ (.slice a1 1 c1) = w2 at *
  clear c5 f5 ew
  have c6 : w2.cell? ⟨w.heap.size, 6, none⟩ = some (.slice none 0 0) := cell_blk HX2.out 6
  go_upto_region 3 with (first
    | ((with_reducible refine (HC2.out _).mono ?_); rintro en w3 ⟨v3, rfl, ho3, hb3⟩; obtain ⟨a3, c3, rfl⟩ := ownsRow_shape ho3; have HO3 := Lib.hid (ownsRow_below HO2.out hb3); have HB3 := Lib.hid (HB2.out.trans (hb3.mono HB2.out.size)); have HX3 := Lib.hid (blk hb3 (lt_blk HX2.out) HX2.out); have HZ3 := Lib.hid (blk hb3 (lt_blk HZ2.out) HZ2.out); clear ho3 hb3 c6; have c6 := cell_blk HX3.out 6; have f6 := free_blk HX3.out 6)
    | fail)
  simp only [List.length_nil] at *
  have HX4 : Hid ((w3.setCell ⟨w.heap.size, 6, none⟩ (.slice a3 0 c3)).heap[w.heap.size]? = some (.cells (billD (.slice a1 1 c1) (.slice a3 0 c3)) 57 (0, 0))) := Lib.hid (by simp [World.setCell, Array.getElem?_modify, HX3.out, billD])
  have HZ4 := Lib.hid ((Below.heap_setCell w3 ⟨w.heap.size, 6, none⟩ (.slice a3 0 c3) (w.heap.size + 1) (by simp)).trans HZ3.out)
  have HK4 : Hid (Keep (fun x => x = w.heap.size) w3 (w3.setCell ⟨w.heap.size, 6, none⟩ (.slice a3 0 c3))) := Lib.hid ((Keep.of_grown (grown_setC w3 w.heap.size 6 _)).mono fun _ _ h => (Option.some.inj h).symm)
  have HO4 := Lib.hid (ownsRow_keep HO3.out HK4.out (fun b hb e => by have h1 := (HO3.out.lt b hb).1; have h2 := HS0.out; omega))
  have HB4 := Lib.hid (HB3.out.setCell (p := ⟨w.heap.size, 6, none⟩) (Nat.le_refl _) (.slice a3 0 c3))
  generalize w3.setCell ⟨w.heap.size, 6, none⟩ (.slice a3 0 c3) = w4 at *
  clear c6 f6
  have d0 : w4.cell? ⟨w.heap.size, 0, none⟩ = some (.string ⟨#[98, 49]⟩) := cell_blk HX4.out 0
  have d1 : w4.cell? ⟨w.heap.size, 1, none⟩ = some (.string ⟨#[108, 105, 110, 101]⟩) := cell_blk HX4.out 1
  have d2 : w4.cell? ⟨w.heap.size, 2, none⟩ = some (.string ⟨#[115]⟩) := cell_blk HX4.out 2
  have d3 : w4.cell? ⟨w.heap.size, 3, none⟩ = some (.string ⟨#[114, 105, 103, 97]⟩) := cell_blk HX4.out 3
  have d4 : w4.cell? ⟨w.heap.size, 4, none⟩ = some (.string ⟨#[111, 115, 108, 111]⟩) := cell_blk HX4.out 4
  have d5 : w4.cell? ⟨w.heap.size, 5, none⟩ = some (.slice a1 1 c1) := cell_blk HX4.out 5
  have d6 : w4.cell? ⟨w.heap.size, 6, none⟩ = some (.slice a3 0 c3) := cell_blk HX4.out 6
  have d7 : w4.cell? ⟨w.heap.size, 7, none⟩ = some (.int .i64 0) := cell_blk HX4.out 7
  have d8 : w4.cell? ⟨w.heap.size, 8, none⟩ = some (.bool false) := cell_blk HX4.out 8
  go_wp2_with (first
    | (refine wpList_store_row (P := Tryz.prog) rfl 57 (.tmp 2) (.tmp 11) rfl (w.heap.size + 1) #[.string ⟨#[98, 49]⟩, .string ⟨#[108, 105, 110, 101]⟩, .string ⟨#[115]⟩, .string ⟨#[114, 105, 103, 97]⟩, .string ⟨#[111, 115, 108, 111]⟩, .slice a1 1 c1, .slice a3 0 c3, .int .i64 0, .bool false] rfl rfl _ _ HZ4.out (by kernel_rfl) rfl (by simp [Value.oneCell']) ?_)
    | fail)
  ((try simp only [Exit.inBlock, Exit.then]); refine bodyPost_ret (results_cell_row cpbRes _ _ (w.heap.size + 1) _ _ (0, 0) _ rfl (setRow_at HZ4.out) Tryz.underlying57 rfl (by kernel_rfl)) rfl ?_)
  refine ⟨a1, c1, a3, c3, rfl, ?_, below_setRow HB4.out (by omega) _⟩
  exact ownsRow_base (Any.ownsRow_same HO4.out (fun b hb => setRow_other (fun e => by have h1 := (HO4.out.lt b hb).1; have h2 := HS0.out; omega))) (by have h2 := HS0.out; omega)
def issE (k : Nat) (vb vp : Value) : Array Value := #[.string ⟨#[98, 49]⟩, .string ⟨#[108, 105, 110, 101]⟩, .string ⟨#[115]⟩, .string ⟨#[114, 105, 103, 97]⟩, .string ⟨#[111, 115, 108, 111]⟩, vb, vp, .int .i64 0, .bool false, .int .i64 0, .int .i64 0, .string (if 0 < k then ⟨#[115]⟩ else ⟨#[]⟩), .slice none 0 0, .int .i64 0, .string (if 1 < k then ⟨#[115]⟩ else ⟨#[]⟩), .slice none 0 0, .int .i64 0, .string (if 2 < k then ⟨#[115]⟩ else ⟨#[]⟩), .slice none 0 0]
/-- The bill is taken in. -/
def IssP (w : World) (br bm : Nat) (m : ByteArray) (e : Ending) (w' : World) : Prop := ∃ be vb vp, e = .returned (.int .i64 0) ∧ Reg w.heap.size w' br bm be enNew vb vp (.slice none 0 0) (.slice none 0 0) (.slice none 0 0) m ∧ w.heap.size ≤ be ∧ Keep (fun x => x = bm) w w'
theorem iss_mid {w : World} {be k : Nat} {vb vp : Value} (hk : k < 3) (h : w.heap[be]? = some (.cells (issE k vb vp) 152 (0, 0))) :
    w.there be (10 + k * 3) 3 ∧ (w.setCells be (10 + k * 3) [.int .i64 0, .string ⟨#[115]⟩, .slice none 0 0]).heap[be]? = some (.cells (issE (k + 1) vb vp) 152 (0, 0)) := by
  refine ⟨fun j hj => ⟨?_, free_blk h _⟩, ?_⟩
  · rw [cell_blk h]
    have hs : (issE k vb vp).size = 19 := rfl
    rw [Array.getElem?_eq_getElem (by omega)]
    rfl
  · obtain rfl | rfl | rfl : k = 0 ∨ k = 1 ∨ k = 2 := by omega
    all_goals simp [World.setCells, World.setCell, Array.getElem?_modify, h, issE]
theorem below_cells {B : Nat} {w : World} {g : Nat} (hg : B ≤ g) : ∀ (vs : List Value) (o : Nat) (w' : World), Below B w w' → Below B w (w'.setCells g o vs)
  | [], _, _, h => h
  | v :: r, o, _, h => below_cells hg r (o + 1) _ (h.setCell (p := ⟨g, o, none⟩) hg v)
theorem size_cells (g : Nat) : ∀ (vs : List Value) (o : Nat) (w : World), (w.setCells g o vs).heap.size = w.heap.size
  | [], _, _ => rfl
  | v :: r, o, w => (size_cells g r (o + 1) (w.setCell ⟨g, o, none⟩ v)).trans (by simp [World.setCell])
theorem ok_store_mid {P : Program} {dst : Option Tmp} {t : TypeId} {pos : String} {after : Array Edge} {gd : Option (Nat × Bool)} {ρ : Operand → Value} {w : World} {R : Value → World → Prop} {T : TypeId} {x y : Operand} {g o : Nat} {cells : Array Value}
    (hx : ρ x = .pointer (some ⟨g, o, none⟩)) (hy : ρ y = .agg cells) (ht : w.there g o cells.size) (hi : (P.info? T).map (·.size) = some cells.size) (h1 : cells.all (·.oneCell') = true) (h : R undef (w.setCells g o cells.toList)) :
    Any.OpOk P ⟨dst, .store T x y, t, pos, after, gd⟩ ρ w R := by
  have hrun := run_storeVar_mid (P := P) w g o T cells ht hi h1
  unfold Any.OpOk
  simp only [execOp, hx, hy, Instr.storeAt, Instr.sureAddr, Sem.run_bind, Sem.run_pure, Result.andThen_ok]
  simp [hrun, Result.andThen]
  exact h
set_option maxHeartbeats 8000000 in
theorem issue_any (br bm g : Nat) (m : ByteArray) (w : World) (hr : Rg0 w br bm lineB) (hc : w.cell? ⟨g, 0, none⟩ = some (.string m)) (hg : g < w.heap.size) (hm : markOk (bt m) = true) (ht : TabW w) (hne : bm ≠ br) :
    Calls Tryz.prog 16 #[.pointer (some ⟨br, 0, none⟩), .agg (billC (.slice (some ⟨g, 0, none⟩) 1 1)), .string ⟨#[115]⟩] w (IssP w br bm m) := by
  obtain ⟨w1, hw1⟩ : ∃ x, x = ((w.alloc (.cells #[.pointer (some ⟨br, 0, none⟩)] 50 (0, 0))).alloc (.cells (billC (.slice (some ⟨g, 0, none⟩) 1 1)) 57 (0, 0))).alloc (.cells #[.string ⟨#[115]⟩] 9 (0, 0)) := ⟨_, rfl⟩
  have hb1 : Below w.heap.size w w1 := hw1 ▸ (((one_below w _).alloc (by simp) _).alloc (by simp; omega) _)
  have HIS : Hid (IsAt w1 br bm w.heap.size (w.heap.size + 1) (w.heap.size + 1 + 1) g m) := Lib.hid (by
    refine ⟨hr.below hb1, ?_, ?_, ?_, (hb1.cell (p := ⟨g, 0, none⟩) hg).trans hc, Nat.lt_of_lt_of_le hg hb1.size, hm, ht.below hb1⟩
    · rw [hw1]
      exact blk (one_below _ _) (by simp; omega) (blk (one_below _ _) (by simp) (heap_alloc_new w _))
    · rw [hw1]
      refine blk (one_below _ _) (by simp) ?_
      simpa using heap_alloc_new (w.alloc (.cells #[.pointer (some ⟨br, 0, none⟩)] 50 (0, 0))) (.cells (billC (.slice (some ⟨g, 0, none⟩) 1 1)) 57 (0, 0))
    · rw [hw1]
      simpa using heap_alloc_new ((w.alloc (.cells #[.pointer (some ⟨br, 0, none⟩)] 50 (0, 0))).alloc (.cells (billC (.slice (some ⟨g, 0, none⟩) 1 1)) 57 (0, 0))) (.cells #[.string ⟨#[115]⟩] 9 (0, 0)))
  have HB1 := Lib.hid hb1
  have HNE := Lib.hid hne
  unfold billC at hw1 ⊢
  have ew := hw1.symm
  clear hr hc hg hm ht hne hb1 hw1
  go_enter Tryz.func16, Tryz.ntmps16
  go_upto_region 1 with fail
  clear ew
  obtain ⟨pr, hpr⟩ : ∃ b, b = w.heap.size := ⟨_, rfl⟩
  rw [← hpr] at HIS ⊢
  clear hpr
  generalize pr + 1 + 1 = ph at *
  generalize pr + 1 = pb at *
  have hb2 := one_below w1 (.cells (issCells pr pb ph) 142)
  have HFF := Lib.hid (iss_first (HIS.out.below hb2) (heap_alloc_new w1 (.cells (issCells pr pb ph) 142)))
  have HB2 := Lib.hid (HB1.out.trans (hb2.mono HB1.out.size))
  have HI2 := Lib.hid (HIS.out.below hb2)
  clear hb2
  unfold issCells at HFF HB2 HI2
  simp only [issFn, issCap] at HFF HB2 HI2
  go_upto_region 4 with (first
    | ((with_reducible refine HFF.out.mono ?_); rintro en w3 ⟨rfl, hb3⟩; have HB3 := Lib.hid (HB2.out.trans (hb3.mono HB2.out.size)); have HI3 := Lib.hid (HI2.out.below hb3); clear hb3)
    | fail)
  clear HFF HB2 HI2 HIS HB1
  have HCP := Lib.hid (copyBill_any g m w3 HI3.out.mc HI3.out.lt)
  unfold billC at HCP
  obtain ⟨b0, b1, b2, b3, b4, b5, b6, b7, b8⟩ : w3.cell? ⟨pb, 0, none⟩ = some (.string ⟨#[98, 49]⟩) ∧ w3.cell? ⟨pb, 1, none⟩ = some (.string ⟨#[108, 105, 110, 101]⟩) ∧ w3.cell? ⟨pb, 2, none⟩ = some (.string ⟨#[115]⟩) ∧ w3.cell? ⟨pb, 3, none⟩ = some (.string ⟨#[114, 105, 103, 97]⟩) ∧ w3.cell? ⟨pb, 4, none⟩ = some (.string ⟨#[111, 115, 108, 111]⟩) ∧ w3.cell? ⟨pb, 5, none⟩ = some (.slice (some ⟨g, 0, none⟩) 1 1) ∧ w3.cell? ⟨pb, 6, none⟩ = some (.slice none 0 0) ∧ w3.cell? ⟨pb, 7, none⟩ = some (.int .i64 0) ∧ w3.cell? ⟨pb, 8, none⟩ = some (.bool false) :=
    ⟨cell_blk HI3.out.pb 0, cell_blk HI3.out.pb 1, cell_blk HI3.out.pb 2, cell_blk HI3.out.pb 3, cell_blk HI3.out.pb 4, cell_blk HI3.out.pb 5, cell_blk HI3.out.pb 6, cell_blk HI3.out.pb 7, cell_blk HI3.out.pb 8⟩
  go_upto_region 5 with (first
    | ((with_reducible refine HCP.out.mono ?_); rintro en w4 ⟨a1, c1, a2, c2, rfl, ho4, hb4⟩; have HO4 := Lib.hid ho4; have HB4 := Lib.hid (HB3.out.trans (hb4.mono HB3.out.size)); have HI4 := Lib.hid (HI3.out.below hb4); have HS4 := Lib.hid (Nat.le_trans HB3.out.size hb4.size); unfold billD; clear ho4 hb4)
    | fail)
  have HX5 : Hid ((w4.alloc (.cells (issE 0 (.slice a1 1 c1) (.slice a2 0 c2)) 152 (0, 0))).heap[w4.heap.size]? = some (.cells (issE 0 (.slice a1 1 c1) (.slice a2 0 c2)) 152 (0, 0))) := Lib.hid (heap_alloc_new w4 _)
  have HB5 : Hid (Below w4.heap.size w4 (w4.alloc (.cells (issE 0 (.slice a1 1 c1) (.slice a2 0 c2)) 152 (0, 0)))) := Lib.hid (one_below w4 _)
  clear b0 b1 b2 b3 b4 b5 b6 b7 b8 HCP
  obtain ⟨w5, hw5⟩ : ∃ x, x = w4.alloc (.cells (issE 0 (.slice a1 1 c1) (.slice a2 0 c2)) 152 (0, 0)) := ⟨_, rfl⟩
  rw [← hw5] at HX5 HB5
  unfold issE at hw5
  simp only [Nat.lt_irrefl, Nat.not_lt_zero, if_false] at hw5
  rw [← hw5]
  clear hw5
  obtain ⟨be, hbe⟩ : ∃ b, b = w4.heap.size := ⟨_, rfl⟩
  rw [← hbe] at HX5 ⊢
  have HBE := Lib.hid hbe
  clear hbe
  go_wp2_with fail
  go_loopw [9, 27] (fun _ i wr => ∃ k : Nat, k ≤ 3 ∧ i = .int .i64 k ∧ wr.heap[be]? = some (.cells (issE k (.slice a1 1 c1) (.slice a2 0 c2)) 152 (0, 0)) ∧ Below w4.heap.size w4 wr) (fun _ i _ => 3 - (intOf i).toNat)
  case atStart => exact ⟨0, by decide, rfl, HX5.out, HB5.out⟩
  case round =>
    obtain ⟨k, hk, rfl, hx, hbel⟩ := hrel
    have HX := Lib.hid hx
    have HBEL := Lib.hid hbel
    clear hx hbel
    by_cases hlt : k < 3
    · have HK := Lib.hid hlt
      have tk : (k : Int) < 3 := by omega
      clear hk hlt
      go_wp2_with fail
      refine Any.region_litL (fun
        | 0 => Any.val (.pointer (some ⟨be, 0, none⟩))
        | 1 => Any.val (.int .i64 (k : Int))
        | 2 => Any.val (.string ⟨#[115]⟩)
        | 3 => Any.val (.agg #[.int .i64 0, .string ⟨#[115]⟩, .slice none 0 0])
        | 4 => Any.val (.pointer (some ⟨be, 0, none⟩))
        | 5 => Any.val (.pointer (some ⟨be, 10, none⟩))
        | 6 => Any.val (.pointer (some ⟨be, 10 + k * 3, none⟩))
        | _ => Any.idle) 7 _ (by kernel_rfl) rfl rfl rfl (by kernel_rfl) (by kernel_rfl) (by kernel_rfl) ?_ ?_ ?_
      · intro i _
        match i with
        | 0 => exact Any.lasts_val _
        | 1 => exact Any.lasts_val _
        | 2 => exact Any.lasts_val _
        | 3 => exact Any.lasts_val _
        | 4 => exact Any.lasts_val _
        | 5 => exact Any.lasts_val _
        | 6 => exact Any.lasts_val _
        | n + 7 => exact Any.lasts_idle
      · simp only [List.take_succ_cons, List.take_zero]
        refine ⟨?_, ?_, ?_, ?_, ?_, ?_, ?_, trivial⟩
        · refine Any.owes_plain rfl fun ρ wo hs' hb hc' => ?_
          have h8 : ρ (.tmp 8) = .pointer (some ⟨be, 0, none⟩) := hs'.old' 8 (by kernel_rfl)
          exact Any.ok_move (Any.post_val hb rfl h8)
        · refine Any.owes_plain rfl fun ρ wo hs' hb hc' => ?_
          have h9 : ρ (.tmp 9) = .int .i64 (k : Int) := hs'.old' 9 (by kernel_rfl)
          exact Any.ok_move (Any.post_val hb rfl h9)
        · refine Any.owes_plain rfl fun ρ wo hs' hb hc' => ?_
          have h5 : ρ (.tmp 5) = .pointer (some ⟨ph, 0, none⟩) := hs'.old' 5 (by kernel_rfl)
          have c0 : wo.cell? ⟨ph, 0, none⟩ = some (.string ⟨#[115]⟩) := cell_blk (HI4.out.below (HBEL.out.trans ((below_undrew hb).mono HBEL.out.size))).ph 0
          go_simp
          exact Any.post_val hb rfl rfl
        · refine Any.owes_plain rfl fun ρ wo hs' hb hc' => ?_
          have h32 : ρ (.tmp 32) = .string ⟨#[115]⟩ := hs'.new' 32 2 (by kernel_rfl)
          go_simp
          exact Any.post_val hb rfl rfl
        · refine Any.owes_plain rfl fun ρ wo hs' hb hc' => ?_
          have h30 : ρ (.tmp 30) = .pointer (some ⟨be, 0, none⟩) := hs'.new' 30 0 (by kernel_rfl)
          go_simp
          exact Any.post_val hb rfl rfl
        · refine Any.owes_plain rfl fun ρ wo hs' hb hc' => ?_
          have h34 : ρ (.tmp 34) = .pointer (some ⟨be, 0, none⟩) := hs'.new' 34 4 (by kernel_rfl)
          go_simp
          exact Any.post_val hb rfl rfl
        · refine Any.owes_plain rfl fun ρ wo hs' hb hc' => ?_
          have h35 : ρ (.tmp 35) = .pointer (some ⟨be, 10, none⟩) := hs'.new' 35 5 (by kernel_rfl)
          have h31 : ρ (.tmp 31) = .int .i64 (k : Int) := hs'.new' 31 1 (by kernel_rfl)
          go_simp
          exact Any.post_val hb rfl rfl
      intro vals w8 hb hk
      have h3 : vals 3 = .agg #[.int .i64 0, .string ⟨#[115]⟩, .slice none 0 0] := hk 3 (by kernel_rfl)
      have h6 : vals 6 = .pointer (some ⟨be, 10 + k * 3, none⟩) := hk 6 (by kernel_rfl)
      have HB8 := Lib.hid (HBEL.out.trans (hb.mono HBEL.out.size))
      have HX8 := Lib.hid (blk hb (lt_blk HX.out) HX.out)
      clear hk hb
      simp only [List.take_succ_cons, List.take_zero, Any.putAll]
      go_frame
      simp only [Nat.zero_add, Nat.reduceAdd]
      rw [h3, h6]
      clear h3 h6
      refine ok_store_mid (P := Tryz.prog) (g := be) (o := 10 + k * 3) (cells := #[.int .i64 0, .string ⟨#[115]⟩, .slice none 0 0]) rfl rfl (iss_mid HK.out HX8.out).1 (by kernel_rfl) (by simp [Value.oneCell']) ?_
      go_wp2_with fail
      go_roundw
      case rel => exact ⟨k + 1, HK.out, by go_num, (iss_mid HK.out HX8.out).2, below_cells (Nat.le_of_eq HBE.out.symm) _ _ _ HB8.out⟩
      case measure => have := HK.out; (simp [intOf]) <;> omega
    · obtain rfl : k = 3 := by omega
      clear hk hlt
      go_wp2_with fail
      refine Any.region_litL (fun
        | 0 => Any.val (.pointer (some ⟨br, 0, none⟩))
        | 1 => Any.val (.pointer (some ⟨br, 0, none⟩))
        | 2 => Any.val (.pointer (some ⟨br, 1, none⟩))
        | 3 => Any.val (.map (some bm))
        | 4 => Any.val (.pointer (some ⟨pb, 0, none⟩))
        | 5 => Any.val (.string ⟨#[98, 49]⟩)
        | 6 => Any.val (.pointer (some ⟨be, 0, none⟩))
        | _ => Any.idle) 7 _ (by kernel_rfl) rfl rfl rfl (by kernel_rfl) (by kernel_rfl) (by kernel_rfl) ?_ ?_ ?_
      · intro i _
        match i with
        | 0 => exact Any.lasts_val _
        | 1 => exact Any.lasts_val _
        | 2 => exact Any.lasts_val _
        | 3 => exact Any.lasts_val _
        | 4 => exact Any.lasts_val _
        | 5 => exact Any.lasts_val _
        | 6 => exact Any.lasts_val _
        | n + 7 => exact Any.lasts_idle
      · simp only [List.take_succ_cons, List.take_zero]
        refine ⟨?_, ?_, ?_, ?_, ?_, ?_, ?_, trivial⟩
        · refine Any.owes_plain rfl fun ρ wo hs' hb hc' => ?_
          have h3 : ρ (.tmp 3) = .pointer (some ⟨pr, 0, none⟩) := hs'.old' 3 (by kernel_rfl)
          have c0 : wo.cell? ⟨pr, 0, none⟩ = some (.pointer (some ⟨br, 0, none⟩)) := cell_blk (HI4.out.below (HBEL.out.trans ((below_undrew hb).mono HBEL.out.size))).pr 0
          go_simp
          exact Any.post_val hb rfl rfl
        · refine Any.owes_plain rfl fun ρ wo hs' hb hc' => ?_
          have h38 : ρ (.tmp 38) = .pointer (some ⟨br, 0, none⟩) := hs'.new' 38 0 (by kernel_rfl)
          go_simp
          exact Any.post_val hb rfl rfl
        · refine Any.owes_plain rfl fun ρ wo hs' hb hc' => ?_
          have h39 : ρ (.tmp 39) = .pointer (some ⟨br, 0, none⟩) := hs'.new' 39 1 (by kernel_rfl)
          go_simp
          exact Any.post_val hb rfl rfl
        · refine Any.owes_plain rfl fun ρ wo hs' hb hc' => ?_
          have h40 : ρ (.tmp 40) = .pointer (some ⟨br, 1, none⟩) := hs'.new' 40 2 (by kernel_rfl)
          have c0 : wo.cell? ⟨br, 1, none⟩ = some (.map (some bm)) := cell_blk (HI4.out.below (HBEL.out.trans ((below_undrew hb).mono HBEL.out.size))).rg.rb 1
          go_simp
          exact Any.post_val hb rfl rfl
        · refine Any.owes_plain rfl fun ρ wo hs' hb hc' => ?_
          have h4 : ρ (.tmp 4) = .pointer (some ⟨pb, 0, none⟩) := hs'.old' 4 (by kernel_rfl)
          go_simp
          exact Any.post_val hb rfl rfl
        · refine Any.owes_plain rfl fun ρ wo hs' hb hc' => ?_
          have h42 : ρ (.tmp 42) = .pointer (some ⟨pb, 0, none⟩) := hs'.new' 42 4 (by kernel_rfl)
          have c0 : wo.cell? ⟨pb, 0, none⟩ = some (.string ⟨#[98, 49]⟩) := cell_blk (HI4.out.below (HBEL.out.trans ((below_undrew hb).mono HBEL.out.size))).pb 0
          go_simp
          exact Any.post_val hb rfl rfl
        · refine Any.owes_plain rfl fun ρ wo hs' hb hc' => ?_
          have h8 : ρ (.tmp 8) = .pointer (some ⟨be, 0, none⟩) := hs'.old' 8 (by kernel_rfl)
          exact Any.ok_move (Any.post_val hb rfl h8)
      intro vals w8 hb hk
      have h3 : vals 3 = .map (some bm) := hk 3 (by kernel_rfl)
      have h5 : vals 5 = .string ⟨#[98, 49]⟩ := hk 5 (by kernel_rfl)
      have h6 : vals 6 = .pointer (some ⟨be, 0, none⟩) := hk 6 (by kernel_rfl)
      have HB8 := Lib.hid (HBEL.out.trans (hb.mono HBEL.out.size))
      have HX8 := Lib.hid (blk hb (lt_blk HX.out) HX.out)
      have HI8 := Lib.hid (HI4.out.below HB8.out)
      have HO8 := Lib.hid (ownsRow_below HO4.out HB8.out)
      clear hk hb
      simp only [List.take_succ_cons, List.take_zero, Any.putAll]
      go_frame
      simp only [Nat.zero_add, Nat.reduceAdd]
      rw [h3, h5, h6]
      clear h3 h5 h6
      refine Mp.ok_update (P := Tryz.prog) (b := bm) (l := []) (key := ⟨#[98, 49]⟩) (v := .pointer (some ⟨be, 0, none⟩)) Tryz.underlying133 Tryz.underlying9 rfl rfl rfl HI8.out.rg.mp ?_
      intro w9 hm9 hg9 hz9
      have HM9 := Lib.hid hm9
      have HG9 := Lib.hid hg9
      clear hm9 hg9 hz9
      go_wp2_with fail
      go_ret
      have hnb : ∀ j, j ≠ bm → j < w8.heap.size → w9.heap[j]? = w8.heap[j]? := fun j hj hl => HG9.out.block j hl (fun e => hj (Option.some.inj e))
      refine ⟨be, .slice a1 1 c1, .slice a2 0 c2, rfl, ⟨⟨(hnb br (fun e => HNE.out e.symm) (lt_blk HI8.out.rg.rb)).trans HI8.out.rg.rb, HM9.out⟩, (hnb be (fun e => by
        have h1 := HX8.out
        obtain ⟨es, cl, h2, -⟩ := HI8.out.rg.mp
        rw [e, h2] at h1
        cases h1) (lt_blk HX8.out)).trans HX8.out, World.ownsRow_nil _ _ _ _, World.ownsRow_nil _ _ _ _, World.ownsRow_nil _ _ _ _, (fun b e => by cases e), (fun b e => by cases e), (fun b e => by cases e), ?_⟩, ?_, ?_⟩
      · exact ownsRow_base (Any.ownsRow_same HO8.out fun b e => hnb b (fun e2 => row_not_map4 HO8.out HI8.out.rg.mp (e2 ▸ e)) (HO8.out.lt b e).2) HB3.out.size
      · have h1 := HBE.out
        have h2 := HS4.out
        omega
      · exact (Keep.of_below (HB4.out.trans (HB8.out.mono HS4.out))).trans (Keep.of_grown HG9.out) (fun _ _ h => (Option.some.inj h).symm)
end Go.Proofs.YtbigoifpfkdkjaaGreatDoor.Sc
namespace Go.Proofs.YtbigoifpfkdkjaaGreatDoor.Sc
open Go Go.RowKit Go.ChangeShapes Go.WideShapes Go.ChangeAt
set_option maxRecDepth 100000

theorem neg1_any (n : Int) (w : World) : Calls Tryz.prog 162 #[.int .i64 n] w (RetB w (decide (n < 0))) := by
  go_enter Tryz.func162, Tryz.ntmps162
  go_wp2
  go_ret
  exact ⟨rfl, Below.refl _ _⟩
theorem over1_any (n : Int) (w : World) : Calls Tryz.prog 163 #[.int .i64 n] w (RetB w (decide (1099511627776 < n))) := by
  go_enter Tryz.func163, Tryz.ntmps163
  go_wp2
  go_ret
  exact ⟨rfl, Below.refl _ _⟩
theorem pos1_any (n : Int) (w : World) : Calls Tryz.prog 164 #[.int .i64 n] w (RetB w (decide (0 < n))) := by
  go_enter Tryz.func164, Tryz.ntmps164
  go_wp2
  go_ret
  exact ⟨rfl, Below.refl _ _⟩
def nRow (n : Int) : List Value := [.int .i64 n]
def IdxI (w : World) (b : Bool) (e : Ending) (w' : World) : Prop := ∃ i : Int, e = .returned (.int .i64 i) ∧ decide (0 ≤ i) = b ∧ Below w.heap.size w w'
set_option maxHeartbeats 4000000 in
theorem indexI_any (f : Int → Bool) (g : Nat) (l : List Int) (v : Value) (w : World) (hs : Sl w 1 v (l.map nRow)) (eg : ∀ args w, (callFunc g args).run Tryz.prog w = .ok (.enter g args) w)
    (hcl : ∀ W (x : Int), Calls Tryz.prog g #[.int .i64 x] W (RetB W (f x))) :
    Calls Tryz.prog 186 #[v, .func (.func g) #[] #[]] w (IdxI w (l.any f)) := by
  obtain ⟨a, c, rfl⟩ : ∃ a c, v = .slice a l.length c := by simpa using hs.shape
  have hll : l.length ≤ 9223372036854775807 := by have := hs.len_le; simp only [List.length_map, maxLen] at this; omega
  have HS := Lib.hid hs
  have HCL := Lib.hid hcl
  clear hs hcl
  go_enter Tryz.func186, Tryz.ntmps186
  go_wp2_with fail
  go_loopw [5, 8] (fun _ i wr => ∃ k : Nat, k ≤ l.length ∧ i = .int .i64 k ∧ l.any f = (l.drop k).any f ∧ Below w.heap.size w wr) (fun _ i _ => l.length - (intOf i).toNat)
  case atStart => exact ⟨0, Nat.zero_le _, rfl, rfl, Below.refl _ _⟩
  case round =>
    obtain ⟨k, hk, rfl, hrel, hbel⟩ := hrel
    have HBEL := Lib.hid hbel
    by_cases hlt : k < l.length
    · obtain ⟨b, off, rfl, -, hb, hc⟩ := HS.out.at (i := k) (by simpa using hlt)
      have d0 := (hbel.cell (p := ⟨b, off + k * 1, none⟩) hb).trans (hc k (nRow l[k]) (by simp [hlt]) 0 _ rfl)
      rw [Nat.mul_one] at d0
      rw [any_dropI hlt] at hrel
      generalize l[k] = x at *
      have HC := Lib.hid (HCL.out wr x)
      have tk : ((k : Nat) : Int) < (l.length : Int) := by omega
      clear hb hc hbel
      generalize hr : f x = r at *
      clear hr
      cases r
      · have HR := Lib.hid hrel
        clear hrel
        go_wp2_with (first
          | (go_at_fn g; refine HC.out.mono ?_; rintro e w2 ⟨rfl, hb2⟩; have HB2 := Lib.hid (HBEL.out.trans (hb2.mono HBEL.out.size)); clear hb2)
          | fail)
        go_roundw
        case rel => exact ⟨k + 1, by omega, by go_num, by rw [HR.out]; rfl, HB2.out⟩
        case measure => (simp [intOf]) <;> omega
      · have HR := Lib.hid hrel
        clear hrel
        go_wp2_with (first
          | (go_at_fn g; refine HC.out.mono ?_; rintro e w2 ⟨rfl, hb2⟩; have HB2 := Lib.hid (HBEL.out.trans (hb2.mono HBEL.out.size)); clear hb2)
          | fail)
        go_ret
        exact ⟨k, rfl, by rw [HR.out]; simp, HB2.out⟩
    · have HE : Hid (l.any f = false) := Lib.hid (by rw [hrel, List.drop_of_length_le (by omega)]; rfl)
      clear hrel hbel hk
      go_wp2_with fail
      go_ret
      exact ⟨-1, rfl, by rw [HE.out]; rfl, HBEL.out⟩
theorem containsI_any (f : Int → Bool) (g : Nat) (l : List Int) (v : Value) (w : World) (hs : Sl w 1 v (l.map nRow)) (eg : ∀ args w, (callFunc g args).run Tryz.prog w = .ok (.enter g args) w)
    (hcl : ∀ W (x : Int), Calls Tryz.prog g #[.int .i64 x] W (RetB W (f x))) :
    Calls Tryz.prog 161 #[v, .func (.func g) #[] #[]] w (RetB w (l.any f)) := by
  have HI := Lib.hid (indexI_any f g l v w hs eg hcl)
  clear hs hcl eg
  go_enter Tryz.func161, Tryz.ntmps161
  go_wp2_with (first
    | ((with_reducible refine HI.out.mono ?_); rintro e w2 ⟨i, rfl, hi, hb2⟩; have HB2 := Lib.hid hb2; have HQ := Lib.hid hi; clear hb2 hi)
    | fail)
  go_ret
  exact ⟨by rw [← HQ.out]; rfl, HB2.out⟩
def wrongS (total : Int) (ws : List Int) : Int :=
  if total < 0 ∨ ws.length = 0 ∨ ws.any (fun n => decide (n < 0)) = true then 1
  else if 1099511627776 < total ∨ 4096 < ws.length ∨ ws.any (fun n => decide (1099511627776 < n)) = true then 3
  else if 0 < total ∧ ws.any (fun n => decide (0 < n)) = false then 4 else 0
set_option maxHeartbeats 4000000 in
theorem wrongS_any (total : Int) (ws : List Int) (v : Value) (w : World) (hs : Sl w 1 v (ws.map nRow)) : Calls Tryz.prog 116 #[.int .i64 total, v] w (Ret w (.int .i64 (wrongS total ws))) := by
  obtain ⟨a, c, rfl⟩ : ∃ a c, v = .slice a ws.length c := by simpa using hs.shape
  have eg1 : ∀ args w, (callFunc 162 args).run Tryz.prog w = .ok (.enter 162 args) w := enters_of Tryz.func162 (by kernel_rfl) rfl
  have eg2 : ∀ args w, (callFunc 163 args).run Tryz.prog w = .ok (.enter 163 args) w := enters_of Tryz.func163 (by kernel_rfl) rfl
  have eg3 : ∀ args w, (callFunc 164 args).run Tryz.prog w = .ok (.enter 164 args) w := enters_of Tryz.func164 (by kernel_rfl) rfl
  have HC1 := Lib.hid (fun W (hW : Below w.heap.size w W) => containsI_any (fun n => decide (n < 0)) 162 ws _ W (hs.below hW (Nat.le_refl _)) eg1 (fun W x => neg1_any x W))
  have HC2 := Lib.hid (fun W (hW : Below w.heap.size w W) => containsI_any (fun n => decide (1099511627776 < n)) 163 ws _ W (hs.below hW (Nat.le_refl _)) eg2 (fun W x => over1_any x W))
  have HC3 := Lib.hid (fun W (hW : Below w.heap.size w W) => containsI_any (fun n => decide (0 < n)) 164 ws _ W (hs.below hW (Nat.le_refl _)) eg3 (fun W x => pos1_any x W))
  have HO1 := Lib.hid (fun W => over1_any total W)
  have hq : wrongS total ws = if total < 0 ∨ ws.length = 0 ∨ ws.any (fun n => decide (n < 0)) = true then 1
    else if 1099511627776 < total ∨ 4096 < ws.length ∨ ws.any (fun n => decide (1099511627776 < n)) = true then 3
    else if 0 < total ∧ ws.any (fun n => decide (0 < n)) = false then 4 else 0 := rfl
  have hll : ws.length ≤ 9223372036854775807 := by have := hs.len_le; simp only [List.length_map, maxLen] at this; omega
  generalize ws.any (fun n => decide (n < 0)) = q1 at *
  generalize ws.any (fun n => decide (1099511627776 < n)) = q2 at *
  generalize ws.any (fun n => decide (0 < n)) = q3 at *
  have HB := Lib.hid (Below.refl w.heap.size w)
  clear hs eg1 eg2 eg3
  by_cases h1 : total < 0
  · have t1 : decide (total < 0) = true := decide_eq_true h1
    rw [if_pos (.inl h1)] at hq
    have HQ := Lib.hid hq
    clear hq h1 HC1 HC2 HC3 HO1
    go_enter Tryz.func116, Tryz.ntmps116
    go_wp2_with fail
    go_ret
    exact ⟨by rw [HQ.out]; rfl, HB.out⟩
  have t1 : decide (total < 0) = false := decide_eq_false h1
  by_cases h2 : ws.length = 0
  · have t2 : ((ws.length : Int) == 0) = true := by simp [h2]
    have t2' : (ws.length == 0) = true := by simp [h2]
    rw [if_pos (.inr (.inl h2))] at hq
    have HQ := Lib.hid hq
    clear hq h1 h2 HC1 HC2 HC3 HO1
    go_enter Tryz.func116, Tryz.ntmps116
    go_wp2_with fail
    go_ret
    exact ⟨by rw [HQ.out]; rfl, HB.out⟩
  have t2 : ((ws.length : Int) == 0) = false := by rw [beq_eq_false_iff_ne]; omega
  have t2' : (ws.length == 0) = false := by simp [h2]
  cases q1
  rotate_left
  · rw [if_pos (.inr (.inr rfl))] at hq
    have HQ := Lib.hid hq
    clear hq h1 h2 HC2 HC3 HO1
    go_enter Tryz.func116, Tryz.ntmps116
    go_wp2_with (first | ((with_reducible refine (HC1.out _ HB.out).mono ?_); rintro e w2 ⟨rfl, hb2⟩; have HB := Lib.hid (HB.out.trans (hb2.mono HB.out.size)); clear hb2) | fail)
    go_ret
    exact ⟨by rw [HQ.out]; rfl, HB.out⟩
  rw [if_neg (by rintro (h | h | h); exact h1 h; exact h2 h; cases h)] at hq
  by_cases h3 : 1099511627776 < total
  · have t3 : decide (1099511627776 < total) = true := decide_eq_true h3
    rw [t3] at HO1
    rw [if_pos (.inl h3)] at hq
    have HQ := Lib.hid hq
    clear hq h1 h2 h3 HC2 HC3
    go_enter Tryz.func116, Tryz.ntmps116
    go_wp2_with (first | ((with_reducible refine (HC1.out _ HB.out).mono ?_); rintro e w2 ⟨rfl, hb2⟩; have HB := Lib.hid (HB.out.trans (hb2.mono HB.out.size)); clear hb2) | ((with_reducible refine (HO1.out _).mono ?_); rintro e w2 ⟨rfl, hb2⟩; have HB := Lib.hid (HB.out.trans (hb2.mono HB.out.size)); clear hb2) | fail)
    go_ret
    exact ⟨by rw [HQ.out]; rfl, HB.out⟩
  have t3 : decide (1099511627776 < total) = false := decide_eq_false h3
  rw [t3] at HO1
  by_cases h4 : 4096 < ws.length
  · have t4 : decide ((4096 : Int) < (ws.length : Int)) = true := decide_eq_true (by omega)
    have t4' : decide (4096 < ws.length) = true := decide_eq_true h4
    rw [if_pos (.inr (.inl h4))] at hq
    have HQ := Lib.hid hq
    clear hq h1 h2 h3 h4 HC2 HC3
    go_enter Tryz.func116, Tryz.ntmps116
    go_wp2_with (first | ((with_reducible refine (HC1.out _ HB.out).mono ?_); rintro e w2 ⟨rfl, hb2⟩; have HB := Lib.hid (HB.out.trans (hb2.mono HB.out.size)); clear hb2) | ((with_reducible refine (HO1.out _).mono ?_); rintro e w2 ⟨rfl, hb2⟩; have HB := Lib.hid (HB.out.trans (hb2.mono HB.out.size)); clear hb2) | fail)
    go_ret
    exact ⟨by rw [HQ.out]; rfl, HB.out⟩
  have t4 : decide ((4096 : Int) < (ws.length : Int)) = false := decide_eq_false (by omega)
  have t4' : decide (4096 < ws.length) = false := decide_eq_false h4
  cases q2
  rotate_left
  · rw [if_pos (.inr (.inr rfl))] at hq
    have HQ := Lib.hid hq
    clear hq h1 h2 h3 h4 HC3
    go_enter Tryz.func116, Tryz.ntmps116
    go_wp2_with (first | ((with_reducible refine (HC1.out _ HB.out).mono ?_); rintro e w2 ⟨rfl, hb2⟩; have HB := Lib.hid (HB.out.trans (hb2.mono HB.out.size)); clear hb2) | ((with_reducible refine (HO1.out _).mono ?_); rintro e w2 ⟨rfl, hb2⟩; have HB := Lib.hid (HB.out.trans (hb2.mono HB.out.size)); clear hb2) | ((with_reducible refine (HC2.out _ HB.out).mono ?_); rintro e w2 ⟨rfl, hb2⟩; have HB := Lib.hid (HB.out.trans (hb2.mono HB.out.size)); clear hb2) | fail)
    go_ret
    exact ⟨by rw [HQ.out]; rfl, HB.out⟩
  rw [if_neg (by rintro (h | h | h); exact h3 h; exact h4 h; cases h)] at hq
  by_cases h5 : 0 < total
  rotate_left
  · have t5 : decide (0 < total) = false := decide_eq_false h5
    rw [if_neg (fun h => h5 h.1)] at hq
    have HQ := Lib.hid hq
    clear hq h1 h2 h3 h4 h5 HC3
    go_enter Tryz.func116, Tryz.ntmps116
    go_wp2_with (first | ((with_reducible refine (HC1.out _ HB.out).mono ?_); rintro e w2 ⟨rfl, hb2⟩; have HB := Lib.hid (HB.out.trans (hb2.mono HB.out.size)); clear hb2) | ((with_reducible refine (HO1.out _).mono ?_); rintro e w2 ⟨rfl, hb2⟩; have HB := Lib.hid (HB.out.trans (hb2.mono HB.out.size)); clear hb2) | ((with_reducible refine (HC2.out _ HB.out).mono ?_); rintro e w2 ⟨rfl, hb2⟩; have HB := Lib.hid (HB.out.trans (hb2.mono HB.out.size)); clear hb2) | fail)
    go_ret
    exact ⟨by rw [HQ.out]; rfl, HB.out⟩
  have t5 : decide (0 < total) = true := decide_eq_true h5
  cases q3
  · rw [if_pos ⟨h5, rfl⟩] at hq
    have HQ := Lib.hid hq
    clear hq h1 h2 h3 h4 h5
    go_enter Tryz.func116, Tryz.ntmps116
    go_wp2_with (first | ((with_reducible refine (HC1.out _ HB.out).mono ?_); rintro e w2 ⟨rfl, hb2⟩; have HB := Lib.hid (HB.out.trans (hb2.mono HB.out.size)); clear hb2) | ((with_reducible refine (HO1.out _).mono ?_); rintro e w2 ⟨rfl, hb2⟩; have HB := Lib.hid (HB.out.trans (hb2.mono HB.out.size)); clear hb2) | ((with_reducible refine (HC2.out _ HB.out).mono ?_); rintro e w2 ⟨rfl, hb2⟩; have HB := Lib.hid (HB.out.trans (hb2.mono HB.out.size)); clear hb2) | ((with_reducible refine (HC3.out _ HB.out).mono ?_); rintro e w2 ⟨rfl, hb2⟩; have HB := Lib.hid (HB.out.trans (hb2.mono HB.out.size)); clear hb2) | fail)
    go_ret
    exact ⟨by rw [HQ.out]; rfl, HB.out⟩
  · rw [if_neg (fun h => by cases h.2)] at hq
    have HQ := Lib.hid hq
    clear hq h1 h2 h3 h4 h5
    go_enter Tryz.func116, Tryz.ntmps116
    go_wp2_with (first | ((with_reducible refine (HC1.out _ HB.out).mono ?_); rintro e w2 ⟨rfl, hb2⟩; have HB := Lib.hid (HB.out.trans (hb2.mono HB.out.size)); clear hb2) | ((with_reducible refine (HO1.out _).mono ?_); rintro e w2 ⟨rfl, hb2⟩; have HB := Lib.hid (HB.out.trans (hb2.mono HB.out.size)); clear hb2) | ((with_reducible refine (HC2.out _ HB.out).mono ?_); rintro e w2 ⟨rfl, hb2⟩; have HB := Lib.hid (HB.out.trans (hb2.mono HB.out.size)); clear hb2) | ((with_reducible refine (HC3.out _ HB.out).mono ?_); rintro e w2 ⟨rfl, hb2⟩; have HB := Lib.hid (HB.out.trans (hb2.mono HB.out.size)); clear hb2) | fail)
    go_ret
    exact ⟨by rw [HQ.out]; rfl, HB.out⟩
end Go.Proofs.YtbigoifpfkdkjaaGreatDoor.Sc
