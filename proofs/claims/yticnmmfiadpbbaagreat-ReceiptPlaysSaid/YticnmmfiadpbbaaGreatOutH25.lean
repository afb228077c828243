/- Lots that go out, by the program. -/
import Derived.Test.YticnmmfiadpbbaaGreatPassH25
import Derived.Test.YticnmmfiadpbbaaGreatLtTake
namespace Go.Proofs.YticnmmfiadpbbaaGreat.Sc
open Go Go.RowKit Go.ChangeShapes Go.WideShapes Go.ChangeAt
set_option maxRecDepth 100000

def lotsOf (h : Hs) (n : ByteArray) : List Lt := match rfind h.L n with
  | none => []
  | some r => r.lots
/-- What a look-up of a number tells, a receipt or an empty one. -/
theorem rc_at {w : World} {bh bm bu : Nat} {h : Hs} {es us : Mp.Ents} (H : HsAt w bh bm bu h es us) (n : ByteArray) : ∃ (c0 c1 : ByteArray) (a3 : Option Addr) (k3 : Nat) (c4 : Int),
    (Mp.mget es n).getD (.agg #[.string ⟨#[]⟩, .string ⟨#[]⟩, .string ⟨#[]⟩, .slice none 0 0, .int .i64 0]) = .agg #[.string c0, .string c1, .string (holdOf h n), .slice a3 (lotsOf h n).length k3, .int .i64 c4] ∧
    Sl w 2 (.slice a3 (lotsOf h n).length k3) ((lotsOf h n).map Lt.row) ∧ ∀ r, rfind h.L n = some r → c0 = r.num ∧ c1 = r.house ∧ c4 = r.day := by
  unfold holdOf lotsOf
  cases hr : rfind h.L n with
  | none => exact ⟨_, _, _, _, _, by rw [H.miss n hr]; rfl, .inl ⟨rfl, none, 0, rfl, fun _ => rfl⟩, fun r h => by cases h⟩
  | some r =>
    obtain ⟨lv, h1, h2⟩ := H.hit n r hr
    obtain ⟨a3, c3, e3⟩ := h2.shape
    simp only [List.length_map] at e3
    subst e3
    exact ⟨_, _, _, _, _, by rw [h1]; rfl, h2, fun r' h' => by obtain rfl := Option.some.inj h'; exact ⟨rfl, rfl, rfl⟩⟩
theorem set_one {w : World} {b : Nat} {x u : Value} {T : TypeId} {fr : Nat × Nat} (h : w.heap[b]? = some (.cells #[x] T fr)) : (w.setCell ⟨b, 0, none⟩ u).heap[b]? = some (.cells #[u] T fr) := by
  simp [World.setCell, Array.getElem?_modify, h]
set_option maxHeartbeats 1000000 in
theorem out1 (l : List Lt) (vl : Value) (b7 : Nat) (W : World) (h7 : B1 W b7 vl 32) (hs : Sl W 2 vl (l.map Lt.row)) : Calls Tryz.prog 49 #[.pointer (some ⟨b7, 0, none⟩)] W (RetB W (!lotsOk l)) := by
  have HLO := Lib.hid (lotsMay_any l vl W hs)
  obtain ⟨al, cl, rfl⟩ : ∃ a c, vl = .slice a l.length c := by simpa using hs.shape
  have c7 := cell_blk h7 0
  simp only [List.getElem?_toArray, List.getElem?_cons_zero] at c7
  generalize lotsOk l = R at *
  go_enter Tryz.func49, Tryz.ntmps49
  go_wp2_with (first
    | ((with_reducible refine HLO.out.mono ?_); rintro e w1 ⟨rfl, hb1⟩; have HB1 := Lib.hid hb1; clear hb1)
    | fail)
  go_ret
  exact retB rfl HB1.out
theorem out2 (l : List Lt) (vl : Value) (b7 : Nat) (W : World) (h7 : B1 W b7 vl 32) (hs : Sl W 2 vl (l.map Lt.row)) : Calls Tryz.prog 50 #[.pointer (some ⟨b7, 0, none⟩)] W (RetB W (decide (64 < l.length))) := by
  obtain ⟨al, cl, rfl⟩ : ∃ a c, vl = .slice a l.length c := by simpa using hs.shape
  have hll : l.length ≤ 9223372036854775807 := by have := hs.len_le; simp only [List.length_map, maxLen] at this; omega
  have c7 := cell_blk h7 0
  simp only [List.getElem?_toArray, List.getElem?_cons_zero] at c7
  go_enter Tryz.func50, Tryz.ntmps50
  go_wp2
  go_ret
  exact retB (by rw [Bool.eq_iff_iff]; simp <;> omega) (Below.refl _ _)
def Out3P (W : World) (B : Bool) (J : List Lt) (b10 : Nat) (e : Ending) (W' : World) : Prop :=
  e = .returned (.bool (!B)) ∧ Keep (fun b => b = b10) W W' ∧ (B = true → ∃ v, B1 W' b10 v 32 ∧ W'.ownsRow W.heap.size 47 2 v J.length (ltCells J))
set_option maxHeartbeats 2000000 in
theorem out3 (lots l : List Lt) (x0 x1 x2 x4 lv vl v0 : Value) (b9 b7 b10 : Nat) (W : World) (h9 : W.heap[b9]? = some (.cells #[x0, x1, x2, lv, x4] 34 (0, 0))) (h7 : B1 W b7 vl 32) (h10 : B1 W b10 v0 32)
    (hx : Sl W 2 lv (lots.map Lt.row)) (hs : Sl W 2 vl (l.map Lt.row)) (hl1 : lots.length ≤ 100000) (hl2 : l.length ≤ 100000) (hc1 : ∀ g, posTot lots g ≤ 4611686018427387904) (hc2 : ∀ g, posTot l g ≤ 4611686018427387904) :
    Calls Tryz.prog 51 #[.pointer (some ⟨b9, 0, none⟩), .pointer (some ⟨b7, 0, none⟩), .pointer (some ⟨b10, 0, none⟩)] W (Out3P W (leB lots l) (leftL lots l) b10) := by
  have HTK := Lib.hid (take_any lots l lv vl W hx hs hl1 hl2 hc1 hc2)
  obtain ⟨ax, cx, rfl⟩ : ∃ a c, lv = .slice a lots.length c := by simpa using hx.shape
  obtain ⟨al, cl, rfl⟩ : ∃ a c, vl = .slice a l.length c := by simpa using hs.shape
  obtain ⟨-, -, -, d3, -⟩ := five_blk h9
  have c7 := cell_blk h7 0
  simp only [List.getElem?_toArray, List.getElem?_cons_zero] at c7
  have H10 := Lib.hid h10
  have HLE := Lib.hid (leB_iff lots l)
  generalize hJ : leftL lots l = J at *
  generalize hB : leB lots l = B at *
  unfold TakeP at HTK
  rw [hJ] at HTK
  clear h9 h7 h10 hx hs hl1 hl2 hc1 hc2 hJ hB
  go_enter Tryz.func51, Tryz.ntmps51
  go_wp2_with fail
  refine HTK.out.mono ?_
  rintro e w1 (⟨hc, v, rfl, hv, hb1⟩ | ⟨hc, rfl, hb1⟩)
  · have hBt : B = true := HLE.out.2 hc
    subst hBt
    obtain ⟨av, cv, ev⟩ := row_shape hv
    subst ev
    have H101 := blk hb1 (lt_blk H10.out) H10.out
    have z0 := cell_blk H101 0
    have zf := free_blk H101 0
    simp only [List.getElem?_toArray, List.getElem?_cons_zero] at z0
    have HV := Lib.hid hv
    have HB1 := Lib.hid hb1
    have HZ1 := Lib.hid H101
    clear hv hb1 hc H101 d3 c7
    go_wp2_with fail
    go_ret
    have k := set_keep w1 b10 0 (.slice av J.length cv)
    refine ⟨rfl, (Keep.of_below HB1.out).trans k fun _ _ e => e, fun _ => ⟨_, ?_, ownsRow_keep HV.out k (fun b hb e => by have h1 := (HV.out.lt b hb).1; have h2 := lt_blk H10.out; omega)⟩⟩
    exact set_one HZ1.out
  · have hBt : B = false := by
      cases hb : B
      · rfl
      · exact absurd (HLE.out.1 hb) hc
    subst hBt
    have H101 := blk hb1 (lt_blk H10.out) H10.out
    have z0 := cell_blk H101 0
    have zf := free_blk H101 0
    simp only [List.getElem?_toArray, List.getElem?_cons_zero] at z0
    have HB1 := Lib.hid hb1
    clear hb1 hc H101 d3 c7
    go_wp2_with fail
    go_ret
    exact ⟨rfl, (Keep.of_below HB1.out).trans (set_keep w1 b10 0 (.slice none 0 0)) fun _ _ e => e, fun h => by cases h⟩
theorem ot_ent1 (args : Array Value) (w : World) : (callFunc 49 args).run Tryz.prog w = .ok (.enter 49 args) w := enters_of Tryz.func49 (by kernel_rfl) rfl args w
theorem ot_ent2 (args : Array Value) (w : World) : (callFunc 50 args).run Tryz.prog w = .ok (.enter 50 args) w := enters_of Tryz.func50 (by kernel_rfl) rfl args w
theorem ot_ent3 (args : Array Value) (w : World) : (callFunc 51 args).run Tryz.prog w = .ok (.enter 51 args) w := enters_of Tryz.func51 (by kernel_rfl) rfl args w
def otB (h : Hs) (n b : ByteArray) (l : List Lt) : Nat → Bool := sel (!thereB h n) (!decide (holdOf h n = b)) (!lotsOk l) (decide (64 < l.length)) (!leB (lotsOf h n) l) false
theorem ot_code (h : Hs) (n b : ByteArray) (l : List Lt) : firstFrom (sel 4 8 1 7 10 0) (otB h n b l) 5 0 = outC h n b l := by
  have e : outC h n b l = if ownC h n b = 0 then outR (lotsOf h n) l else ownC h n b := by
    unfold outC ownC lotsOf
    cases rfind h.L n with
    | none => rfl
    | some r =>
      show (if r.hold = b then outR r.lots l else 8) = if (if r.hold = b then (0 : Int) else 8) = 0 then outR r.lots l else (if r.hold = b then 0 else 8)
      by_cases hb : r.hold = b
      · rw [if_pos hb, if_pos hb, if_pos rfl]
      · rw [if_neg hb, if_neg hb, if_neg (by decide)]
  rw [e, ownC_eq]
  unfold outR
  show (if (!thereB h n) = true then (4 : Int) else if (!decide (holdOf h n = b)) = true then 8 else if (!lotsOk l) = true then 1 else if decide (64 < l.length) = true then 7 else if (!leB (lotsOf h n) l) = true then 10 else 0) = _
  generalize (!thereB h n) = p
  generalize (!decide (holdOf h n = b)) = q
  generalize lotsOk l = x
  generalize decide (64 < l.length) = y
  generalize leB (lotsOf h n) l = z
  cases p <;> cases q <;> cases x <;> cases y <;> cases z <;> rfl
theorem ot_zero {h : Hs} {n b : ByteArray} {l : List Lt} (h0 : outC h n b l = 0) : ∀ i, i < 5 → otB h n b l i = false := by
  rw [← ot_code] at h0
  revert h0
  show (if otB h n b l 0 = true then (4 : Int) else if otB h n b l 1 = true then 8 else if otB h n b l 2 = true then 1 else if otB h n b l 3 = true then 7 else if otB h n b l 4 = true then 10 else 0) = 0 → _
  intro h0 i hi
  cases h1 : otB h n b l 0 <;> rw [h1] at h0 <;> cases h2 : otB h n b l 1 <;> rw [h2] at h0 <;> cases h3 : otB h n b l 2 <;> rw [h3] at h0 <;> cases h4 : otB h n b l 3 <;> rw [h4] at h0 <;> cases h5 : otB h n b l 4 <;> rw [h5] at h0
  all_goals first
    | (exfalso; revert h0; decide)
    | (match i, hi with
       | 0, _ => exact h1
       | 1, _ => exact h2
       | 2, _ => exact h3
       | 3, _ => exact h4
       | 4, _ => exact h5
       | m + 5, h => omega)
def otFn : Nat → FuncId := sel 63 64 49 50 51 0
def otCap (b5 b7 b8 s : Nat) : Nat → Array Value := sel #[.pointer (some ⟨b8, 0, none⟩)] #[.pointer (some ⟨b7, 0, none⟩), .pointer (some ⟨b5, 0, none⟩)] #[.pointer (some ⟨s, 0, none⟩)] #[.pointer (some ⟨s, 0, none⟩)] #[.pointer (some ⟨s + 1, 0, none⟩), .pointer (some ⟨s, 0, none⟩), .pointer (some ⟨s + 2, 0, none⟩)] #[]
theorem outH_at (h : Hs) (n b : ByteArray) (l : List Lt) (h0 : outC h n b l = 0) : ∃ r, rfind h.L n = some r ∧ lotsOf h n = r.lots ∧ holdOf h n = r.hold ∧ canTake r.lots l ∧ lotsOk l = true ∧ l.length ≤ 64 ∧
    outH h n b l = ⟨h.name, if (leftL r.lots l).length = 0 then rdel h.L n else rput (rdel h.L n) ⟨r.num, r.house, r.hold, leftL r.lots l, r.day⟩, h.used⟩ := by
  obtain ⟨r, hr, -, h1, h2, h3⟩ := outC_zero h0
  exact ⟨r, hr, by rw [lotsOf, hr], by rw [holdOf, hr], h3, h1, h2, by rw [outH, if_pos h0, hr]⟩
set_option maxHeartbeats 16000000 in
theorem outH_any {k bh bm bu : Nat} {h : Hs} (n b : ByteArray) (l : List Lt) (vl : Value) (w : World) (H : Hsx w bh bm bu h) (hok : HsOk k h) (hs : Sl w 2 vl (l.map Lt.row)) :
    Calls Tryz.prog 16 #[.pointer (some ⟨bh, 0, none⟩), .string n, .string b, vl] w (HsP w bh bm bu (outH h n b l) (outC h n b l)) := by
  obtain ⟨al, cl, rfl⟩ : ∃ a c, vl = .slice a l.length c := by simpa using hs.shape
  obtain ⟨es, us, HH⟩ := H
  obtain ⟨c0, c1, a3, k3, c4, hg, hx3, hrc⟩ := rc_at HH n
  obtain ⟨o, ho⟩ : ∃ o, o = holdOf h n := ⟨_, rfl⟩
  obtain ⟨X, hX⟩ : ∃ X, X = lotsOf h n := ⟨_, rfl⟩
  rw [← ho, ← hX] at hg
  rw [← hX] at hx3
  have hXL : X.length ≤ 100000 ∧ (∀ g, posTot X g ≤ 4611686018427387904) := by
    rw [hX]
    unfold lotsOf
    cases hr : rfind h.L n with
    | none => exact ⟨by simp, fun g => by simp [posTot]⟩
    | some r =>
      have hro := hok.all r (rfind_some hr).1
      exact ⟨by have := hro.len; simp only; omega, fun g => by have h1 := posTot_totC hro.norm.pos g; have h2 := hro.cnt; simp only; omega⟩
  have HA := allocs [.cells #[.slice al l.length cl] 32, .cells #[.string c0, .string c1, .string o, .slice a3 X.length k3, .int .i64 c4] 34, .cells #[.slice none 0 0] 32] w
  simp only [List.foldl_cons, List.foldl_nil, List.length_cons, List.length_nil] at HA
  obtain ⟨W0, hW0⟩ : ∃ W, W = (((w.alloc (.cells #[.slice al l.length cl] 32)).alloc (.cells #[.string c0, .string c1, .string o, .slice a3 X.length k3, .int .i64 c4] 34)).alloc (.cells #[.slice none 0 0] 32)) := ⟨_, rfl⟩
  rw [← hW0] at HA
  obtain ⟨hb, hz, hx⟩ := HA
  have x0 : B1 W0 w.heap.size _ _ := hx 0 _ rfl
  have x1 := hx 1 _ rfl
  have x2 : B1 W0 (w.heap.size + 2) _ _ := hx 2 _ rfl
  have HX0 := Lib.hid x0
  have HX1 := Lib.hid x1
  have HX2 := Lib.hid x2
  have HB := Lib.hid hb
  have HZ := Lib.hid hz
  have HHW : Hid (HsAt w bh bm bu h es us) := Lib.hid HH
  have HH0 : Hid (Hsx W0 bh bm bu h) := Lib.hid ⟨es, us, HH.below hb⟩
  have HL0 := Lib.hid (hs.below hb (Nat.le_refl _))
  have HLX := Lib.hid (hx3.below hb (Nat.le_refl _))
  have HOW := Lib.hid (owned_any n b W0 HH0.out)
  obtain ⟨i0, hi, hz', hsz, hby⟩ := info_parts infoCk
  have HI := Lib.hid (And.intro hi (And.intro hz' (And.intro hsz hby)))
  have HOK := Lib.hid hok
  have HPC := Lib.hid (ot_code h n b l)
  have HPZ := Lib.hid (fun h0 => ot_zero (h := h) (n := n) (b := b) (l := l) h0)
  have HPH : Hid (outC h n b l ≠ 0 → outH h n b l = h) := Lib.hid (fun h0 => if_neg h0)
  have HPS := Lib.hid (outH_at h n b l)
  have HLN := Lib.hid hXL
  have HRC := Lib.hid hrc
  have HO := Lib.hid ho
  have HXE := Lib.hid hX
  have HG := Lib.hid hg
  have HRM := Lib.hid HH.rm
  have HBX := Lib.hid HH.box
  have HA1 := Lib.hid (one_below w (.cells #[.slice al l.length cl] 32))
  have k1 := cell_blk (blk HA1.out (lt_blk HBX.out) HBX.out) 1
  simp only [List.getElem?_toArray, List.getElem?_cons_succ, List.getElem?_cons_zero] at k1
  generalize outH h n b l = PH at *
  generalize hPC : outC h n b l = PC at *
  have e0 := hW0.symm
  clear hb hz hx x0 x1 x2 HH hok hi hz' hsz hby hW0 hPC hs hx3 hrc ho hX hg hXL
  go_enter Tryz.func16, Tryz.ntmps16
  go_wp2_with (first
    | ((with_reducible refine Mp.wpl_val (l := es) (key := n) (v := .agg #[.string c0, .string c1, .string o, .slice a3 X.length k3, .int .i64 c4]) ?_ ?_ ?_ Tryz.underlying58 Tryz.underlying9 (zeroRc _) (HRM.out.same (HA1.out.block _ HRM.out.lt)) HG.out ?_); rfl; rfl; rfl)
    | fail)
  refine HOW.out.mono ?_
  rintro e w1 ⟨hb1, b5, b7, b8, v, rfl, ho1, hoa⟩
  obtain ⟨ac, cc, ev⟩ := row_shape ho1
  subst ev
  have HB1 := Lib.hid hb1
  have HO1 := Lib.hid ho1
  have HOA := Lib.hid hoa
  clear hb1 ho1 hoa k1 e0 HOW
  have HBC := Lib.hid (one_below w1 (.cells #[.int .i64 1, .func (.func 49) #[] #[.pointer (some ⟨w.heap.size, 0, none⟩)], .int .i64 7, .func (.func 50) #[] #[.pointer (some ⟨w.heap.size, 0, none⟩)], .int .i64 10, .func (.func 51) #[] #[.pointer (some ⟨w.heap.size + 1, 0, none⟩), .pointer (some ⟨w.heap.size, 0, none⟩), .pointer (some ⟨w.heap.size + 2, 0, none⟩)]] 71))
  have HOC := Lib.hid (ownsRow_below HO1.out HBC.out)
  have HSR := Lib.hid (src_block (m := 3) (c := 3) (sz := 2) (heap_alloc_new w1 (.cells #[.int .i64 1, .func (.func 49) #[] #[.pointer (some ⟨w.heap.size, 0, none⟩)], .int .i64 7, .func (.func 50) #[] #[.pointer (some ⟨w.heap.size, 0, none⟩)], .int .i64 10, .func (.func 51) #[] #[.pointer (some ⟨w.heap.size + 1, 0, none⟩), .pointer (some ⟨w.heap.size, 0, none⟩), .pointer (some ⟨w.heap.size + 2, 0, none⟩)]] 71)) rfl)
  have HCL : Hid (2 + 3 ≤ maxLen ∧ (2 + 3) * 16 ≤ 140737488355328 ∧ W0.heap.size ≤ (w1.alloc (.cells #[.int .i64 1, .func (.func 49) #[] #[.pointer (some ⟨w.heap.size, 0, none⟩)], .int .i64 7, .func (.func 50) #[] #[.pointer (some ⟨w.heap.size, 0, none⟩)], .int .i64 10, .func (.func 51) #[] #[.pointer (some ⟨w.heap.size + 1, 0, none⟩), .pointer (some ⟨w.heap.size, 0, none⟩), .pointer (some ⟨w.heap.size + 2, 0, none⟩)]] 71)).heap.size) := Lib.hid (by have := HBC.out.size; have := HB1.out.size; simp only [maxLen]; omega)
  go_wp2_with (first
    | ((with_reducible refine Any.wpl_cat ?_ ?_ ?_ Tryz.underlying73 HI.out.1 HI.out.2.1 HI.out.2.2.1 HI.out.2.2.2 ?_ (by decide) HOC.out HSR.out ?_ HCL.out.1 HCL.out.2.1 HCL.out.2.2 ?_); rfl; rfl; rfl; rfl; (simp [Value.oneCell']); intro v2 w2 hown2 hgrow2 hwho2
       have HO2 := Lib.hid hown2
       have HB2 : Hid (Below W0.heap.size W0 w2) := Lib.hid ((HB1.out.trans (HBC.out.mono HB1.out.size)).grown hgrow2 (Nat.le_trans HB1.out.size HBC.out.size) (fun k hk => (HO1.out.lt k hk).1))
       have HOA2 : Hid (OwnedAt w2 h n b b5 b7 b8) := Lib.hid (HOA.out.grown HO1.out HBC.out hgrow2)
       clear hown2 hgrow2 hwho2)
    | fail)
  obtain ⟨g, cg, rfl, hg1, hg2, hg3⟩ := ck_own (n := 5) (code := sel 4 8 1 7 10 0) (k := otFn) (cap := otCap b5 b7 b8 w.heap.size) (by decide) HO2.out
  obtain ⟨b10, hb10⟩ : ∃ q, q = w.heap.size + 2 := ⟨_, rfl⟩
  obtain ⟨J, hJ⟩ : ∃ J, J = leftL X l := ⟨_, rfl⟩
  have HB10 : Hid (b10 = w.heap.size + 2 ∧ b10 + 1 < w2.heap.size) := Lib.hid ⟨hb10, by have := HZ.out; omega⟩
  have HJE := Lib.hid hJ
  have HF : Hid (Calls Tryz.prog 27 #[.slice (some ⟨g, 0, none⟩) 5 cg] w2 fun e w' => e = .returned (.int .i64 PC) ∧ Keep (fun q => q = b10) w2 w' ∧ ((∀ i, i < 5 → otB h n b l i = false) → ∃ v, B1 w' b10 v 32 ∧ w'.ownsRow w2.heap.size 47 2 v J.length (ltCells J))) := Lib.hid (by
    have hz := HZ.out
    have hs2 := HB2.out.size
    rw [← HPC.out]
    refine first_gen 5 cg (by decide) g (sel 4 8 1 7 10 0) otFn (otCap b5 b7 b8 w.heap.size) (otB h n b l) (fun i W => (i ≤ 4 → Below w2.heap.size w2 W) ∧ Keep (fun q => q = b10) w2 W ∧ w2.heap.size ≤ W.heap.size ∧ (5 ≤ i → ∃ v, B1 W b10 v 32 ∧ W.ownsRow w2.heap.size 47 2 v J.length (ltCells J)) ∧ ∀ j, j < i → otB h n b l j = false)
      (fun W => Keep (fun q => q = b10) w2 W ∧ ((∀ i, i < 5 → otB h n b l i = false) → ∃ v, B1 W b10 v 32 ∧ W.ownsRow w2.heap.size 47 2 v J.length (ltCells J))) w2 ⟨fun _ => Below.refl _ _, Keep.refl _ _, Nat.le_refl _, fun h => by omega, fun j h => by omega⟩ ?_ ?_ ?_ ?_ fun W hW => ⟨hW.2.1, fun _ => hW.2.2.2.1 (by omega)⟩
    · intro i hi W
      match i, hi with
      | 0, _ => exact ow_ent1 _ W
      | 1, _ => exact ow_ent2 _ W
      | 2, _ => exact ot_ent1 _ W
      | 3, _ => exact ot_ent2 _ W
      | 4, _ => exact ot_ent3 _ W
      | m + 5, h => omega
    · intro i W hi hW
      have hne : g ≠ b10 := by omega
      exact ⟨(hW.2.1.cell (o := 2 * i) hg2 hne).trans (hg3 i hi).1, (hW.2.1.cell (o := 2 * i + 1) hg2 hne).trans (hg3 i hi).2⟩
    · intro i W o hW
      refine ⟨fun h4 => (hW.1 h4).alloc hW.2.2.1 o, hW.2.1.trans (Keep.alloc (fun q => q = b10) W o) (fun _ _ e => e), Nat.le_trans hW.2.2.1 (by simp), fun h5 => ?_, hW.2.2.2.2⟩
      obtain ⟨v, h1, h2⟩ := hW.2.2.2.1 h5
      have hbb := one_below W o
      exact ⟨v, blk hbb (lt_blk h1) h1, ownsRow_below h2 hbb⟩
    · intro i W hi hW
      have quiet : ∀ {f : FuncId} {caps : Array Value} {t : Bool}, i < 4 → Calls Tryz.prog f caps W (RetB W t) → otB h n b l i = t → Calls Tryz.prog f caps W fun e w'' => e = .returned (.bool (otB h n b l i)) ∧ (otB h n b l i = false → ((i + 1 ≤ 4 → Below w2.heap.size w2 w'') ∧ Keep (fun q => q = b10) w2 w'' ∧ w2.heap.size ≤ w''.heap.size ∧ (5 ≤ i + 1 → ∃ v, B1 w'' b10 v 32 ∧ w''.ownsRow w2.heap.size 47 2 v J.length (ltCells J)) ∧ ∀ j, j < i + 1 → otB h n b l j = false)) ∧
          (otB h n b l i = true → Keep (fun q => q = b10) w2 w'' ∧ ((∀ i, i < 5 → otB h n b l i = false) → ∃ v, B1 w'' b10 v 32 ∧ w''.ownsRow w2.heap.size 47 2 v J.length (ltCells J))) ∧ w''.cell? ⟨W.heap.size - 1, 0, none⟩ = W.cell? ⟨W.heap.size - 1, 0, none⟩ := fun {f caps t} h4 hc ht => by
        refine hc.mono ?_
        rintro e w'' ⟨rfl, hb'⟩
        have hbw := (hW.1 (by omega)).trans (hb'.mono hW.2.2.1)
        have hkw := hW.2.1.trans (Keep.of_below (F := fun q => q = b10) hb') (fun _ _ e => e)
        exact ⟨by rw [ht], fun h0 => ⟨fun _ => hbw, hkw, hbw.size, fun h5 => by omega, fun j hj => by rcases Nat.lt_succ_iff_lt_or_eq.1 hj with e | e; exact hW.2.2.2.2 j e; exact e ▸ h0⟩, fun h1 => ⟨hkw, fun hall => by rw [hall i hi] at h1; cases h1⟩, hb'.cell (p := ⟨W.heap.size - 1, 0, none⟩) (by show W.heap.size - 1 < W.heap.size; have := hW.2.2.1; omega)⟩
      have H2 := fun h4 => HOA2.out.below (hW.1 h4)
      have ww := hW.2.2.1
      have X0 : B1 W w.heap.size (.slice al l.length cl) 32 := hW.2.1.blk (blk HB2.out (by omega) HX0.out) (fun e => by omega)
      have X1 := hW.2.1.blk (blk HB2.out (lt_blk HX1.out) HX1.out) (fun e => by omega)
      match i, hi with
      | 0, _ => exact quiet (by decide) (H2 (by omega)).calls.1 rfl
      | 1, _ => exact quiet (by decide) (H2 (by omega)).calls.2 rfl
      | 2, _ => exact quiet (by decide) (out1 l _ _ W X0 ((HL0.out.below HB2.out (Nat.le_refl _)).below (hW.1 (by omega)) (Nat.le_refl _))) rfl
      | 3, _ => exact quiet (by decide) (out2 l _ _ W X0 ((HL0.out.below HB2.out (Nat.le_refl _)).below (hW.1 (by omega)) (Nat.le_refl _))) rfl
      | 4, _ =>
        have hbe := hW.1 (by omega)
        have X2 : B1 W b10 (.slice none 0 0) 32 := by rw [HB10.out.1]; exact blk hbe (by omega) (blk HB2.out (by omega) HX2.out)
        have hOk : lotsOk l = true := by simpa [otB, sel] using hW.2.2.2.2 2 (by decide)
        have hLen : l.length ≤ 64 := by have h64 := hW.2.2.2.2 3 (by decide); simp only [otB, sel, decide_eq_false_iff_not] at h64; omega
        have hCnt : ∀ g, posTot l g ≤ 4611686018427387904 := fun g => by have h1 := posTot_totC (lotsOk_pos hOk) g; have h2 := lotsOk_max hOk; omega
        have h3 := out3 X l (.string c0) (.string c1) (.string o) (.int .i64 c4) _ _ _ _ _ b10 W X1 X0 X2 ((HLX.out.below HB2.out (Nat.le_refl _)).below hbe (Nat.le_refl _)) ((HL0.out.below HB2.out (Nat.le_refl _)).below hbe (Nat.le_refl _)) HLN.out.1 (by omega) HLN.out.2 hCnt
        rw [← HJE.out] at h3
        have e3 : #[Value.pointer (some ⟨w.heap.size + 1, 0, none⟩), .pointer (some ⟨w.heap.size, 0, none⟩), .pointer (some ⟨b10, 0, none⟩)] = otCap b5 b7 b8 w.heap.size 4 := by rw [HB10.out.1]; rfl
        rw [e3] at h3
        refine Calls.mono h3 ?_
        rintro e w'' ⟨rfl, hk, hleft⟩
        have hkw := hW.2.1.trans hk (fun _ _ e => e)
        have e4 : otB h n b l 4 = !leB X l := by rw [HXE.out]; rfl
        refine ⟨by rw [e4], fun h1 => ⟨fun h => by omega, hkw, Nat.le_trans ww hk.size, fun _ => ?_, fun j hj => by rcases Nat.lt_succ_iff_lt_or_eq.1 hj with e | e; exact hW.2.2.2.2 j e; exact e ▸ h1⟩, fun h1 => ⟨hkw, fun hall => by rw [hall 4 (by decide)] at h1; cases h1⟩, hk.cell (b := W.heap.size - 1) (by omega) (by have := HB10.out.2; omega)⟩
        rw [e4] at h1
        obtain ⟨v, h5, h6⟩ := hleft (by simpa using h1)
        exact ⟨v, h5, ownsRow_base h6 ww⟩
      | m + 5, h => omega)
  clear hg1 hg2 hg3 hJ hb10
  refine HF.out.mono ?_
  rintro e w3 ⟨rfl, hk3, hl3⟩
  have HK3 := Lib.hid hk3
  have HL3 := Lib.hid hl3
  have HBW2 : Hid (Below w.heap.size w w2) := Lib.hid (HB.out.trans (HB2.out.mono HB.out.size))
  have HBW : Hid (Below w.heap.size w w3) := Lib.hid (HK3.out.behind HBW2.out HBW2.out.size (fun q hq e => by have := HB10.out.1; omega))
  have HH3 := Lib.hid (HHW.out.below HBW.out)
  clear hk3 hl3
  by_cases h0 : PC = 0
  rotate_left
  · have t1 : (PC != 0) = true := by simp [h0]
    have HQ := Lib.hid (HPH.out h0)
    clear h0
    go_wp2_with fail
    go_ret
    exact ⟨rfl, Keep.of_below HBW.out, by rw [HQ.out]; exact ⟨_, _, HH3.out⟩⟩
  have t1 : (PC != 0) = false := by simp [h0]
  have HQ0 := Lib.hid h0
  obtain ⟨r, hr, hlo, hho, hct, hlk, h64, hPH⟩ := HPS.out h0
  obtain ⟨vl, hv1, hv2⟩ := HL3.out (HPZ.out h0)
  obtain ⟨av, cv, ev⟩ := row_shape hv2
  subst ev
  have HRF := Lib.hid hr
  have HQ := Lib.hid hPH
  obtain ⟨r1, r2, r3⟩ := HRC.out r hr
  have HJR : Hid (J = leftL r.lots l) := Lib.hid (by rw [HJE.out, HXE.out, hlo])
  have HRE : Hid (r = ⟨c0, c1, o, r.lots, c4⟩) := Lib.hid (by cases r; simp only at *; rw [r1, r2, r3, HO.out, hho])
  have HNJ : Hid (Norm J ∧ J.length ≤ 64 ∧ totC J ≤ 67108864) := Lib.hid (by rw [HJR.out]; exact left_rc (HOK.out.all r (rfind_some hr).1) hct)
  have HV := Lib.hid hv2
  have HV1 := Lib.hid hv1
  have d10 := cell_blk hv1 0
  rw [HB10.out.1] at d10
  have k1 := cell_blk HH3.out.box 1
  simp only [List.getElem?_toArray, List.getElem?_cons_succ, List.getElem?_cons_zero] at k1 d10
  have HRM3 := Lib.hid HH3.out.rm
  have hjl : J.length ≤ 9223372036854775807 := by have := HNJ.out.2.1; omega
  clear hr hlo hho hct hlk h64 hPH hv1 hv2 r1 r2 r3 h0 HPH HPS HPZ
  by_cases hj : J.length = 0
  · have t2 : ((J.length : Int) == 0) = true := by simp [hj]
    have t3 : (J.length == 0) = true := by simp [hj]
    have HQ2 : Hid (PH = ⟨h.name, rdel h.L n, h.used⟩) := Lib.hid (by rw [HQ.out, ← HJR.out, if_pos hj])
    clear hj
    go_wp2_with (first
      | ((with_reducible refine Mp.wpl_deletem (b := bm) (l := es) (key := n) ?_ ?_ ?_ Tryz.underlying58 Tryz.underlying9 HRM3.out ?_); rfl; rfl; rfl; intro w7 hm7 hg7 hz7; have HM7 := Lib.hid hm7; have HK7 : Hid (Keep (fun b => b = bm) w3 w7) := Lib.hid ((Keep.of_grown hg7).mono fun _ _ e => (Option.some.inj e).symm); clear hm7 hg7 hz7; go_frame)
      | fail)
    have HH7 := Lib.hid (HH3.out.delR (h' := ⟨h.name, rdel h.L n, h.used⟩) HK7.out HM7.out rfl rfl rfl)
    go_ret
    exact ⟨by rw [HQ0.out]; first | rfl | skip, (Keep.of_below HBW.out).trans HK7.out fun _ _ e => .inl e, by rw [HQ2.out]; exact ⟨_, _, HH7.out⟩⟩
  · have t2 : ((J.length : Int) == 0) = false := by rw [beq_eq_false_iff_ne]; omega
    have t3 : (J.length == 0) = false := by rw [beq_eq_false_iff_ne]; exact hj
    have HQ2 : Hid (PH = ⟨h.name, rput (rdel h.L n) ⟨c0, c1, o, J, c4⟩, h.used⟩) := Lib.hid (by
      rw [HQ.out, ← HJR.out, if_neg hj]
      have e := HRE.out
      rw [e])
    clear hj
    have HX13 := Lib.hid (HK3.out.blk (blk HB2.out (lt_blk HX1.out) HX1.out) (fun e => by have := HB10.out.1; omega))
    have HJN := Lib.hid (join_all J _ w3 (own_lots HV.out rfl) (by have := HNJ.out.2.1; omega) (fun g => by have h1 := posTot_totC HNJ.out.1.pos g; have h2 := HNJ.out.2.2; omega))
    rw [show joinL J = J from norm_ext (joinL_norm J) HNJ.out.1 (joinL_tot J)] at HJN
    go_wp2_with (first
      | ((with_reducible refine HJN.out.mono ?_); rintro e w4 ⟨v4, rfl, ho4, hb4⟩; obtain ⟨aj, cj, ej⟩ := row_shape ho4; subst ej
         have HO4 := Lib.hid ho4; have HB4 := Lib.hid hb4; have HX14 := Lib.hid (blk hb4 (lt_blk HX13.out) HX13.out); have yy := cell_blk HX14.out 3; have yf := free_blk HX14.out 3; simp only [List.getElem?_toArray, List.getElem?_cons_succ, List.getElem?_cons_zero] at yy; clear ho4 hb4)
      | fail)
    have HKS := Lib.hid (set_keep w4 (w.heap.size + 1) 3 (.slice aj J.length cj))
    obtain ⟨w6, hw6⟩ : ∃ W, W = w4.setCell ⟨w.heap.size + 1, 3, none⟩ (.slice aj J.length cj) := ⟨_, rfl⟩
    have HY5 : Hid (w6.heap[w.heap.size + 1]? = some (.cells #[.string c0, .string c1, .string o, .slice aj J.length cj, .int .i64 c4] 34 (0, 0))) := Lib.hid (by rw [hw6]; exact set_five HX14.out)
    rw [← hw6] at HKS ⊢
    have HBW6 : Hid (Below w.heap.size w w6) := Lib.hid (HKS.out.behind (HBW.out.trans (HB4.out.mono HBW.out.size)) (Nat.le_trans HBW.out.size HB4.out.size) (fun q hq e => by omega))
    have HH6 := Lib.hid (HHW.out.below HBW6.out)
    have HX5 := Lib.hid HH6.out.box
    have HRM5 := Lib.hid HH6.out.rm
    obtain ⟨nm, hnm⟩ : ∃ nm, nm = h.name := ⟨_, rfl⟩
    rw [← hnm] at HX5
    have HOJ := Lib.hid (own_lots (ownsRow_keep HO4.out HKS.out (fun b hb e => by have h1 := (HO4.out.lt b hb).1; have h2 := HBW2.out.size; have h3 := HK3.out.size; have h4 := HB10.out; omega)) rfl)
    clear hw6 k1 d10 yy yf hnm
    obtain ⟨w5, hw5⟩ : ∃ W, W = w6 := ⟨_, rfl⟩
    rw [← hw5] at HY5 HKS HBW6 HH6 HX5 HRM5 HOJ ⊢
    clear hw5
    refine Any.region_litL (fun
      | 0 => Any.val (.pointer (some ⟨bh, 0, none⟩))
      | 1 => Any.val (.pointer (some ⟨bh, 0, none⟩))
      | 2 => Any.val (.pointer (some ⟨bh, 1, none⟩))
      | 3 => Any.val (.map (some bm))
      | 4 => Any.val (.string n)
      | 5 => Any.val (.agg #[.string c0, .string c1, .string o, .slice aj J.length cj, .int .i64 c4])
      | _ => Any.idle) 6 _ (by kernel_rfl) rfl rfl rfl (by kernel_rfl) (by kernel_rfl) (by kernel_rfl) ?_ ?_ ?_
    · intro i _
      match i with
      | 0 => exact Any.lasts_val _
      | 1 => exact Any.lasts_val _
      | 2 => exact Any.lasts_val _
      | 3 => exact Any.lasts_val _
      | 4 => exact Any.lasts_val _
      | 5 => exact Any.lasts_val _
      | n + 6 => exact Any.lasts_idle
    · simp only [List.take_succ_cons, List.take_zero]
      refine ⟨?_, ?_, ?_, ?_, ?_, ?_, trivial⟩
      · refine Any.owes_plain rfl fun ρ wo hs' hb hc' => ?_
        have h0 : ρ (.tmp 0) = .pointer (some ⟨bh, 0, none⟩) := hs'.old' 0 (by kernel_rfl)
        exact Any.ok_move (Any.post_val hb rfl h0)
      · refine Any.owes_plain rfl fun ρ wo hs' hb hc' => ?_
        have h45 : ρ (.tmp 45) = .pointer (some ⟨bh, 0, none⟩) := hs'.new' 45 0 (by kernel_rfl)
        go_simp
        exact Any.post_val hb rfl rfl
      · refine Any.owes_plain rfl fun ρ wo hs' hb hc' => ?_
        have h46 : ρ (.tmp 46) = .pointer (some ⟨bh, 0, none⟩) := hs'.new' 46 1 (by kernel_rfl)
        go_simp
        exact Any.post_val hb rfl rfl
      · refine Any.owes_plain rfl fun ρ wo hs' hb hc' => ?_
        have h47 : ρ (.tmp 47) = .pointer (some ⟨bh, 1, none⟩) := hs'.new' 47 2 (by kernel_rfl)
        obtain ⟨c0, c1, c2⟩ := cells3_blk (blk (below_undrew hb) (lt_blk HX5.out) HX5.out)
        go_simp
        exact Any.post_val hb rfl rfl
      · refine Any.owes_plain rfl fun ρ wo hs' hb hc' => ?_
        have h1 : ρ (.tmp 1) = .string n := hs'.old' 1 (by kernel_rfl)
        exact Any.ok_move (Any.post_val hb rfl h1)
      · refine Any.owes_plain rfl fun ρ wo hs' hb hc' => ?_
        have h9 : ρ (.tmp 9) = .pointer (some ⟨w.heap.size + 1, 0, none⟩) := hs'.old' 9 (by kernel_rfl)
        obtain ⟨y0, y1, y2, y3, y4⟩ := five_blk (blk (below_undrew hb) (lt_blk HY5.out) HY5.out)
        go_simp
        exact Any.post_val hb rfl rfl
    intro vals w6 hb hk
    have h3 : vals 3 = .map (some bm) := hk 3 (by kernel_rfl)
    have h4 : vals 4 = .string n := hk 4 (by kernel_rfl)
    have h5 : vals 5 = .agg #[.string c0, .string c1, .string o, .slice aj J.length cj, .int .i64 c4] := hk 5 (by kernel_rfl)
    have HB6 := Lib.hid hb
    have HR6 := Lib.hid (HRM5.out.same (hb.block _ HRM5.out.lt))
    clear hk hb
    simp only [List.take_succ_cons, List.take_zero, Any.putAll]
    go_frame
    simp only [Nat.zero_add, Nat.reduceAdd]
    rw [h3, h4, h5]
    clear h3 h4 h5
    refine Mp.ok_update (P := Tryz.prog) (b := bm) (l := es) (key := n) Tryz.underlying58 Tryz.underlying9 rfl rfl rfl HR6.out ?_
    intro w7 hm7 hg7 hz7
    have HM7 := Lib.hid hm7
    have HK7 : Hid (Keep (fun b => b = bm) w6 w7) := Lib.hid ((Keep.of_grown hg7).mono fun _ _ e => (Option.some.inj e).symm)
    clear hm7 hg7 hz7
    have HXN : Hid (c0 = n) := Lib.hid (by have h1 := (rfind_some HRF.out).2; have e := HRE.out; rw [e] at h1; exact h1)
    have HH7 := Lib.hid ((HH6.out.below HB6.out).putR (h' := ⟨h.name, rput (rdel h.L n) ⟨c0, c1, o, J, c4⟩, h.used⟩) (x := ⟨c0, c1, o, J, c4⟩) (lv := .slice aj J.length cj) (n := n) HK7.out HM7.out
      ((HOJ.out.below HB6.out (Nat.le_refl _)).keepM HK7.out (fun b hb j => by rw [show b = bm from hb]; exact map_no_cell ((HRM5.out.same (HB6.out.block _ HRM5.out.lt))) j)) rfl rfl
      (fun m => by rw [rfind_rput (fun r hr e => (mem_rdel.1 hr).2 (e.trans HXN.out)), rfind_rdel]; show (if c0 = m then _ else _) = _; rw [HXN.out]; by_cases e : n = m <;> simp [e]))
    go_wp2_with fail
    go_ret
    exact ⟨by rw [HQ0.out]; first | rfl | skip, ((Keep.of_below HBW6.out).trans (Keep.of_below (F := fun b => b = bm ∨ b = bu) HB6.out) fun _ _ e => e).trans HK7.out fun _ _ e => .inl e, by rw [HQ2.out]; exact ⟨_, _, HH7.out⟩⟩
end Go.Proofs.YticnmmfiadpbbaaGreat.Sc
