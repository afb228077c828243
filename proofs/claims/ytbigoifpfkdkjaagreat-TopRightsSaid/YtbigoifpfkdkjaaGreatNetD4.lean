/- What is owed, listed: nets tells that netting.Pairs nets. -/
import Derived.Test.YtbigoifpfkdkjaaGreatNetC4
import Derived.Test.YtbigoifpfkdkjaaGreatLaystopz
import Derived.Laws.StructEq
namespace Go.Proofs.YtbigoifpfkdkjaaGreat.Sc
open Go Go.RowKit Go.ChangeShapes Go.WideShapes Go.ChangeAt
set_option maxRecDepth 100000

theorem wpl_lenr {P : Program} {ops : Array Oper} {Q : Exit → Act → World → Prop} {rest : List Oper} {dst : Option Tmp} {ty : TypeId} {pos : String} {after : Array Edge} {gd : Option (Nat × Bool)} {a : Act} {w : World} {t : TypeId} {v : Value} {x : Operand} {b : Nat}
    (hw : Region.wanted ⟨dst, .call ⟨.builtin .len, #[x], #[t]⟩, ty, pos, after, gd⟩ (yielded ops a.tmps) = true)
    (hx : a.eval x = .map (some b)) (hr : ∀ ty, (Builtin.len_ #[t] ty #[.map (some b)]).run P w = .ok v w) (hR : wpList P ops Q rest (a.put dst v) w) : wpList P ops Q (⟨dst, .call ⟨.builtin .len, #[x], #[t]⟩, ty, pos, after, gd⟩ :: rest) a w :=
  Any.wpl hw (by
    have hr2 := hr ty
    unfold Any.OpOk
    simp [execOp, resolve, invoke, builtin, hx, hr2, Result.andThen]
    exact hR)
theorem run_len4 {w : World} {bm c : Nat} {es : Array MapEntry} (hb : w.heap[bm]? = some (.map es c)) (ty : TypeId) : (Builtin.len_ #[68] ty #[.map (some bm)]).run Tryz.prog w = .ok (.int .i64 es.size) w := by
  simp [Builtin.len_, run_underlying Tryz.underlying68, MapKept.run_getObj_map hb, goInt]
def Db.aggC : List Value := [.string ⟨#[97]⟩, .string ⟨#[98]⟩, .string ⟨#[85, 83, 68]⟩, .int .i64 2]
theorem ins1_any (v fv : Value) (w : World) : Calls Tryz.prog 96 #[v, .int .i64 0, .int .i64 1, fv] w (fun e w' => e = .returned (.tuple #[]) ∧ w' = w) := by
  go_enter Tryz.func96, Tryz.ntmps96
  go_wp2_with fail
  go_loopw [8] (fun i wr => i = .int .i64 1 ∧ wr = w) (fun _ _ => 0)
  case atStart => exact ⟨rfl, rfl⟩
  case round =>
    obtain ⟨rfl, rfl⟩ := hrel
    go_wp2_with fail
    go_end0
    exact ⟨rfl, rfl⟩
theorem pdq1_any (v fv x : Value) (w : World) : Calls Tryz.prog 76 #[v, .int .i64 0, .int .i64 1, x, fv] w (fun e w' => e = .returned (.tuple #[]) ∧ w' = w) := by
  have HI := Lib.hid (ins1_any v fv)
  go_enter Tryz.func76, Tryz.ntmps76
  go_wp2_with fail
  go_loopw [1, 2] (fun a b wr => a = .int .i64 0 ∧ b = .int .i64 1 ∧ wr = w) (fun _ _ _ => 0)
  case atStart => exact ⟨rfl, rfl, rfl⟩
  case round =>
    obtain ⟨rfl, rfl, rfl⟩ := hrel
    go_wp2_with (first
      | ((with_reducible refine (HI.out _).mono ?_); rintro e w1 ⟨rfl, rfl⟩)
      | fail)
    refine bodyPost_ret (results_none rfl _ _ _) rfl ?_
    exact ⟨rfl, rfl⟩
theorem sort1_any (p : Option Addr) (c : Nat) (fv : Value) (w : World) : Calls Tryz.prog 45 #[.slice p 1 c, fv] w (fun e w' => e = .returned (.tuple #[]) ∧ w' = w) := by
  have HI := Lib.hid (fun x W => pdq1_any (.slice p 1 c) fv x W)
  have HB := Lib.hid (fun W => Tryz.bits_Len 1 W (by decide) (by decide))
  go_enter Tryz.func45, Tryz.ntmps45
  go_wp2_with (first
    | ((with_reducible refine (HB.out _).mono ?_); rintro e w1 ⟨rfl, rfl⟩)
    | ((with_reducible refine (HI.out _ _).mono ?_); rintro e w1 ⟨rfl, rfl⟩)
    | fail)
  go_end0
  exact ⟨rfl, rfl⟩
theorem infoD4 : (Tryz.prog.info? 46).map (fun i => (i.zero, i.size, i.bytes)) = some (some (.agg #[.string ⟨#[]⟩, .string ⟨#[]⟩, .string ⟨#[]⟩, .int .i64 0]), 4, 56) := by kernel_rfl
theorem d4_one (a b c : ByteArray) (x : Int) : ∀ u ∈ (#[.string a, .string b, .string c, .int .i64 x] : Array Value).toList, u.oneCell' = true := by
  intro u hu
  simp only [List.mem_cons, List.not_mem_nil, or_false] at hu
  rcases hu with rfl | rfl | rfl | rfl <;> rfl
theorem ownD_slice {w : World} {B n : Nat} {t : TypeId} {v : Value} {xs : List Value} (h : w.ownsRow B t 4 v (n + 1) xs) : ∃ p c, v = .slice p (n + 1) c := by
  obtain ⟨h1, h2⟩ := h
  rcases h2 with ⟨-, h2⟩ | ⟨g', cap', cur, hv, -⟩
  · cases h2
  · exact ⟨_, _, hv⟩
set_option maxHeartbeats 4000000 in
theorem list_any (bm : Nat) (w : World) (hm : w.heap[bm]? = some (.map #[⟨kAB, .int .i64 2, 0⟩] 2)) : Calls Tryz.prog 30 #[.map (some bm)] w (RetRow w 46 4 1 Db.aggC) := by
  obtain ⟨i0, hi, hz, hsz, hby⟩ := info_parts infoD4
  have HI := Lib.hid (And.intro hi (And.intro hz (And.intro hsz hby)))
  have HM := Lib.hid hm
  have HS := Lib.hid (fun p c W => sort1_any p c (.func (.func 46) #[] #[]) W)
  clear hi hz hsz hby hm
  go_enter Tryz.func30, Tryz.ntmps30
  go_wp2_with (first
    | ((with_reducible refine wpl_lenr (b := bm) ?_ ?_ (run_len4 HM.out) ?_); rfl; rfl)
    | (refine wpList_make_own w rfl (.const (.int .i64 0)) (.tmp 7) 42 rfl w.heap.size 46 i0 _ 4 Tryz.underlying42 HI.out.1 HI.out.2.1 HI.out.2.2.1 .i64 .i64 1 1 rfl rfl rfl (by rw [HI.out.2.2.2]; decide) (by simp [maxLen]) (Nat.le_refl _) ?_; intro w1 hown1 hgrow1; have hb1 : Below w.heap.size w w1 := (Below.refl _ _).grown hgrow1 (Nat.le_refl _) (fun k hk => by cases hk); have HO1 := Lib.hid hown1; have HB1 := Lib.hid hb1; have HM1 := Lib.hid (blk hb1 (lt_blk HM.out) HM.out); clear hown1 hgrow1 hb1)
    | ((with_reducible refine wpl_rgr (b := bm) ?_ ?_ (rg_run HM1.out) ?_); rfl; rfl; go_frame)
    | fail)
  have HR1 : Hid ((w1.alloc (.mapIter (some bm) 2 #[] 2)).heap[w1.heap.size]? = some (.mapIter (some bm) 2 #[] 2)) := Lib.hid (heap_alloc_new w1 _)
  have HBA := Lib.hid (one_below w1 (.mapIter (some bm) 2 #[] 2))
  have HRN : Hid (w.heap.size ≤ w1.heap.size ∧ ¬ bm = w1.heap.size) := Lib.hid ⟨HB1.out.size, fun e => by have := lt_blk HM1.out; omega⟩
  have HMA := Lib.hid (blk HBA.out (lt_blk HM1.out) HM1.out)
  have HBT := Lib.hid (HB1.out.trans (HBA.out.mono HB1.out.size))
  have HOA := Lib.hid (ownsRow_below HO1.out HBA.out)
  have HOO := Lib.hid (fun k hk => (HO1.out.lt k hk).2)
  generalize w1.alloc (.mapIter (some bm) 2 #[] 2) = wt at *
  obtain ⟨r, hr⟩ : ∃ b, b = w1.heap.size := ⟨_, rfl⟩
  rw [← hr] at HR1 HRN HOO ⊢
  clear hr HBA HM1 HO1 HB1
  have HOLD := Lib.hid hold2
  go_loopw [3, 4, 5] (fun v _ _ wr => ∃ b : Bool, wr.heap[bm]? = some (.map #[⟨kAB, .int .i64 2, 0⟩] 2) ∧ wr.heap[r]? = some (.mapIter (some bm) 2 (if b then #[0] else #[]) 2) ∧ wr.ownsRow w.heap.size 46 4 v (if b then 1 else 0) (if b then Db.aggC else []) ∧ (∀ k, v.ownBlock = some k → k < r ∨ r < k) ∧ Below w.heap.size w wr) (fun _ _ _ wr => itLeft4 wr r bm)
  case atStart => exact ⟨false, HMA.out, HR1.out, HOA.out, fun k hk => .inl (HOO.out k hk), HBT.out⟩
  case round =>
  obtain ⟨bb, hm, hr, ho, hwo, hbel⟩ := hrel
  have HM0 := Lib.hid hm
  have HB0 := Lib.hid hbel
  have HW0 := Lib.hid hwo
  clear hm hbel HMA HR1 HOA HBT HOO hwo
  cases bb
  · have HR0 : Hid (wr.heap[r]? = some (.mapIter (some bm) 2 #[] 2)) := Lib.hid hr
    have HO0 : Hid (wr.ownsRow w.heap.size 46 4 u3 0 []) := Lib.hid ho
    obtain ⟨L, hL⟩ : ∃ L, L = [(⟨kAB, .int .i64 2, 0⟩ : MapEntry)] := ⟨_, rfl⟩
    have HLS : Hid ((leftOf #[⟨kAB, .int .i64 2, 0⟩] #[]).toList = L ∧ L ≠ []) := Lib.hid (by rw [hL]; exact ⟨by kernel_rfl, List.cons_ne_nil _ _⟩)
    have HL2 := Lib.hid hL
    clear hr hL ho
    go_wp2_with (first
      | ((with_reducible refine wpl_nxS ?_ ?_ HR0.out HM0.out HOLD.out (Nat.le_refl _) (by decide) HLS.out ?_); rfl; rfl)
      | fail)
    intro e he wn hnx
    rw [HL2.out] at he
    obtain rfl : e = ⟨kAB, .int .i64 2, 0⟩ := by simpa using he
    have HBN : Hid (Below w.heap.size w wn) := Lib.hid (hnx.1.behind HB0.out HB0.out.size (fun q hq e => by have := HRN.out.1; omega))
    have HR2 : Hid (wn.heap[r]? = some (.mapIter (some bm) 2 #[0] 2)) := Lib.hid hnx.2.1
    have HM2 := Lib.hid hnx.2.2.1
    have HO2 : Hid (wn.ownsRow w.heap.size 46 4 u3 0 []) := Lib.hid (ownsRow_keep HO0.out hnx.1 (fun k hk e => by have := HW0.out k hk; omega))
    have hen := hnx.2.2.2
    clear he hnx HLS HL2
    unfold kAB at hen
    simp only at hen
    obtain ⟨wp, hwp⟩ : ∃ x, x = wn.alloc (.cells #[.string ⟨#[85, 83, 68]⟩, .string ⟨#[97]⟩, .string ⟨#[98]⟩] 86 (0, 0)) := ⟨_, rfl⟩
    have HWP := Lib.hid hwp
    have hbp : Below wn.heap.size wn wp := hwp ▸ one_below _ _
    have hx7 : wp.heap[wn.heap.size]? = some (.cells #[.string ⟨#[85, 83, 68]⟩, .string ⟨#[97]⟩, .string ⟨#[98]⟩] 86 (0, 0)) := hwp ▸ heap_alloc_new _ _
    have p0 := cell_blk hx7 0
    have p1 := cell_blk hx7 1
    have p2 := cell_blk hx7 2
    have HOP := Lib.hid (ownsRow_below HO2.out hbp)
    have HMP := Lib.hid (blk hbp (lt_blk HM2.out) HM2.out)
    have HRP := Lib.hid (blk hbp (lt_blk HR2.out) HR2.out)
    have HBP := Lib.hid (HBN.out.trans (hbp.mono HBN.out.size))
    have HL4 : Hid (0 + 1 ≤ maxLen ∧ (0 + 1) * 56 ≤ 140737488355328 ∧ w.heap.size ≤ wp.heap.size) := Lib.hid ⟨by simp [maxLen], by decide, HBP.out.size⟩
    clear hwp hbp hx7
    go_upto_region 5 with (first
      | (refine wpList_store_row (P := Tryz.prog) rfl 86 (.tmp 4) (.tmp 14) rfl wn.heap.size #[.string ⟨#[85, 83, 68]⟩, .string ⟨#[97]⟩, .string ⟨#[98]⟩] rfl rfl _ _ (heap_alloc_new wn _) (by kernel_rfl) rfl (by simp [Value.oneCell']) ?_; rw [setRow_new4, ← HWP.out])
      | fail)
    go_wp2_with (first
      | (((with_reducible refine Any.wpl_push ?_ ?_ ?_ Tryz.underlying42 HI.out.1 HI.out.2.1 HI.out.2.2.1 HI.out.2.2.2 ?_ (by decide) ?_ ((d4_one _ _ _ _)) (HOP.out) HL4.out.1 HL4.out.2.1 HL4.out.2.2 ?_); rfl; rfl; rfl; rfl; rfl; intro v4 w4 hown4 hgrow4 hwho4))
      | fail)
    have HB4 : Hid (Below w.heap.size w w4) := Lib.hid (HBP.out.grown hgrow4 HBP.out.size (fun k hk => (HOP.out.lt k hk).1))
    have HM4 : Hid (w4.heap[bm]? = some (.map #[⟨kAB, .int .i64 2, 0⟩] 2)) := Lib.hid ((hgrow4.block bm (lt_blk HMP.out) (fun e => by have h1 := (HOP.out.lt bm e.symm).1; have h2 := lt_blk HM.out; omega)).trans HMP.out)
    have HR4 : Hid (w4.heap[r]? = some (.mapIter (some bm) 2 #[0] 2)) := Lib.hid ((hgrow4.block r (lt_blk HRP.out) (fun e => by have h1 := HW0.out r e.symm; omega)).trans HRP.out)
    have HW4 : Hid (∀ k, v4.ownBlock = some k → k < r ∨ r < k) := Lib.hid (fun k hk => by
      rcases hwho4 k hk with h1 | h1
      · exact HW0.out k h1
      · have h2 := lt_blk HRP.out
        exact .inr (by omega))
    have HO4 := Lib.hid hown4
    clear hown4 hgrow4 hwho4
    go_roundw
    case rel => exact ⟨true, HM4.out, HR4.out, HO4.out, HW4.out, HB4.out⟩
    case measure => (simp only [itLeft4, HM4.out, HR4.out, HM0.out, HR0.out, lf2, lf5]); decide
  · have HR0 : Hid (wr.heap[r]? = some (.mapIter (some bm) 2 #[0] 2)) := Lib.hid hr
    have HO0 : Hid (wr.ownsRow w.heap.size 46 4 u3 1 Db.aggC) := Lib.hid ho
    have HLL : Hid ((leftOf #[⟨kAB, .int .i64 2, 0⟩] #[0]).toList = []) := Lib.hid (by kernel_rfl)
    obtain ⟨p, c, hpc⟩ := ownD_slice ho
    subst hpc
    clear hr ho
    go_wp2_with (first
      | ((with_reducible refine wpl_nxN ?_ ?_ HR0.out HM0.out HOLD.out (Nat.le_refl _) HLL.out ?_); rfl; rfl)
      | ((with_reducible refine (HS.out _ _ _).mono ?_); rintro e w9 ⟨rfl, rfl⟩)
      | fail)
    go_ret
    exact ⟨_, rfl, HO0.out, HB0.out⟩
/-- What Pairs tells of the debts netted. -/
def PrP (w : World) (e : Ending) (w' : World) : Prop := ∃ v, e = .returned (.tuple #[v, .int .i64 0]) ∧ w'.ownsRow w.heap.size 46 4 v 1 Db.aggC ∧ Below w.heap.size w w'
set_option maxHeartbeats 2000000 in
theorem pairs_any (g : Nat) (w : World) (hs : Sl w 4 (.slice (some ⟨g, 0, none⟩) 2 2) ([DAB, DBA].map Db.row)) : Calls Tryz.prog 11 #[.slice (some ⟨g, 0, none⟩) 2 2] w (PrP w) := by
  have HN := Lib.hid (netted_any g w hs)
  have HL := Lib.hid (fun bm W h => list_any bm W h)
  clear hs
  go_enter Tryz.func11, Tryz.ntmps11
  go_wp2_with (first
    | ((with_reducible refine HN.out.mono ?_); rintro e w1 ⟨bm, rfl, hm, hb1⟩; have HB1 := Lib.hid hb1; have HM1 := Lib.hid hm; clear hb1 hm)
    | ((with_reducible refine (HL.out bm _ HM1.out).mono ?_); rintro e w2 ⟨v2, rfl, ho2, hb2⟩; have HO2 := Lib.hid (ownsRow_base ho2 HB1.out.size); have HB2 := Lib.hid (HB1.out.trans (hb2.mono HB1.out.size)); clear ho2 hb2)
    | fail)
  go_ret2
  exact ⟨v2, rfl, HO2.out, HB2.out⟩
theorem d4Held : Tryz.prog.stoodInHeld 46 = false := by kernel_rfl
theorem d4Struct : Tryz.prog.underlying 46 = some (.struct (Tryz.prog.fieldsOf 46)) := by kernel_rfl
theorem run_eql_d4 (w : World) : (binOp .eql 46 (.agg #[.string ⟨#[97]⟩, .string ⟨#[98]⟩, .string ⟨#[85, 83, 68]⟩, .int .i64 2]) (.agg #[.string ⟨#[97]⟩, .string ⟨#[98]⟩, .string ⟨#[85, 83, 68]⟩, .int .i64 2])).run Tryz.prog w = .ok (.bool true) w := by
  rw [run_eql_struct, run_equalIn_agg w 9999 _ _ _ d4Struct d4Held]
  go_simp
theorem debts_new (w : World) : Sl (w.alloc (.cells #[.string ⟨#[97]⟩, .string ⟨#[98]⟩, .string ⟨#[85, 83, 68]⟩, .int .i64 5, .string ⟨#[98]⟩, .string ⟨#[97]⟩, .string ⟨#[85, 83, 68]⟩, .int .i64 3] 46)) 4 (.slice (some ⟨w.heap.size, 0, none⟩) 2 2) ([DAB, DBA].map Db.row) := by
  refine .inr ⟨w.heap.size, 0, 2, rfl, by simp, Nat.le_refl _, by simp [maxLen], ?_⟩
  intro i r hi j u hj
  match i, hi with
  | 0, hi =>
    cases hi
    match j, hj with
    | 0, hj => cases hj; exact cell_blk (heap_alloc_new w _) 0
    | 1, hj => cases hj; exact cell_blk (heap_alloc_new w _) 1
    | 2, hj => cases hj; exact cell_blk (heap_alloc_new w _) 2
    | 3, hj => cases hj; exact cell_blk (heap_alloc_new w _) 3
    | j + 4, hj => cases hj
  | 1, hi =>
    cases hi
    match j, hj with
    | 0, hj => cases hj; exact cell_blk (heap_alloc_new w _) 4
    | 1, hj => cases hj; exact cell_blk (heap_alloc_new w _) 5
    | 2, hj => cases hj; exact cell_blk (heap_alloc_new w _) 6
    | 3, hj => cases hj; exact cell_blk (heap_alloc_new w _) 7
    | j + 4, hj => cases hj
  | i + 2, hi => cases hi
theorem pr_open {w : World} {B : Nat} {v : Value} (h : w.ownsRow B 46 4 v 1 Db.aggC) : ∃ g c, v = .slice (some ⟨g, 0, none⟩) 1 c ∧ w.cell? ⟨g, 0, none⟩ = some (.string ⟨#[97]⟩) ∧ w.cell? ⟨g, 1, none⟩ = some (.string ⟨#[98]⟩) ∧ w.cell? ⟨g, 2, none⟩ = some (.string ⟨#[85, 83, 68]⟩) ∧ w.cell? ⟨g, 3, none⟩ = some (.int .i64 2) := by
  have hs : Sl w 4 v [Db.aggC] := own_sl (by simpa using h) rfl (by intro r hr; simp at hr; subst hr; rfl)
  rcases hs with ⟨h0, -⟩ | ⟨b, off, cap, hv, -, -, -, hc⟩
  · cases h0
  · obtain ⟨h1, h2⟩ := h
    rcases h2 with ⟨-, h2⟩ | ⟨g', cap', cur, hv2, -⟩
    · cases h2
    · rw [hv] at hv2
      simp only [Value.slice.injEq, Option.some.injEq, Addr.mk.injEq, and_true] at hv2
      obtain ⟨⟨rfl, rfl⟩, -, rfl⟩ := hv2
      have hq := hc 0 Db.aggC rfl
      exact ⟨b, cap, hv, by simpa using hq 0 _ rfl, by simpa using hq 1 _ rfl, by simpa using hq 2 _ rfl, by simpa using hq 3 _ rfl⟩
set_option maxHeartbeats 2000000 in
theorem nets_any (w : World) : Calls Tryz.prog 4 #[] w (RetB w true) := by
  have HB0 := Lib.hid (one_below w (.cells #[.string ⟨#[97]⟩, .string ⟨#[98]⟩, .string ⟨#[85, 83, 68]⟩, .int .i64 5, .string ⟨#[98]⟩, .string ⟨#[97]⟩, .string ⟨#[85, 83, 68]⟩, .int .i64 3] 46))
  have HP := Lib.hid (pairs_any w.heap.size _ (debts_new w))
  have te : ∀ W, (binOp .eql 46 (.agg #[.string ⟨#[97]⟩, .string ⟨#[98]⟩, .string ⟨#[85, 83, 68]⟩, .int .i64 2]) (.agg #[.string ⟨#[97]⟩, .string ⟨#[98]⟩, .string ⟨#[85, 83, 68]⟩, .int .i64 2])).run Tryz.prog W = .ok (.bool true) W := run_eql_d4
  go_enter Tryz.func4, Tryz.ntmps4
  go_wp2_with (first
    | ((with_reducible refine HP.out.mono ?_); rintro e w1 ⟨v, rfl, ho, hb⟩; obtain ⟨g, c, rfl, c0, c1, c2, c3⟩ := pr_open ho; have HB1 := Lib.hid (HB0.out.trans (hb.mono HB0.out.size)); clear hb ho)
    | fail)
  go_ret
  exact retB rfl HB1.out
end Go.Proofs.YtbigoifpfkdkjaaGreat.Sc
