/- A tariff: its rows, and what New makes of them. -/
import Derived.Test.YtehlhfcaajhhaaaRefScale45
import Derived.Test.YtehlhfcaajhhaaaKMap
import Derived.Test.YtehlhfcaajhhaaaGuard
import Derived.DeepKeys4
import Derived.MapViews
import Derived.StillTailTactics
import Derived.OwnWalk
namespace Go.Proofs.Ytehlhfcaajhhaaa.Sc
open Go Go.RowKit Go.ChangeShapes Go.WideShapes Go.ChangeAt
set_option maxRecDepth 100000

/-- A row of a tariff. -/
structure Rt where
  code : ByteArray
  org : ByteArray
  day : Int
  num : Int
  den : Int
def Rt.row (r : Rt) : List Value := [.string r.code, .string r.org, .int .i64 r.day, .int .i64 r.num, .int .i64 r.den]
def Rt.cells (r : Rt) : Array Value := #[.string r.code, .string r.org, .int .i64 r.day, .int .i64 r.num, .int .i64 r.den]
def Rt.ok (r : Rt) : Bool := nameOk r.code && ((r.org.toList.isEmpty || nameOk r.org) && (decide (r.day = 0) && ratOk r.num r.den))
structure Rt.fit (r : Rt) : Prop where
  c : r.code.size ≤ maxLen
  o : r.org.size ≤ maxLen
  n : -9223372036854775808 ≤ r.num ∧ r.num ≤ 9223372036854775807
  d : -9223372036854775808 ≤ r.den ∧ r.den ≤ 9223372036854775807
def rowEnc (p : ByteArray × ByteArray) : Value := .agg #[.string p.1, .string p.2]
theorem rowEnc_mk (a b : ByteArray) : rowEnc (a, b) = .agg #[.string a, .string b] := rfl
theorem rowEnc_inj (a b : ByteArray × ByteArray) (h : rowEnc a = rowEnc b) : a = b := by
  simp only [rowEnc, Value.agg.injEq, Array.mk.injEq, List.cons.injEq, Value.string.injEq, and_true] at h
  exact Prod.ext h.1 h.2
theorem rowDeep : Try.prog.keyTypeAt (Try.prog.types.size + 1) 74 = true := by kernel_rfl
theorem rowWide : (match Try.prog.underlying 74 with | some (.array _ _) | some (.struct _) => true | _ => false) = true := by rw [Try.underlying74]
theorem rowSize : (74 : TypeId) < Try.prog.types.size := of_decide_eq_true (by kernel_rfl)
theorem rowKeyed : Maps.Keyed Try.prog 74 := Maps.Keyed.of_law (deep_law_laid laidOut (m := 2) (by omega) rowSize (by kernel_rfl) rowWide)
theorem rowKey (a b : ByteArray) (ha : a.size ≤ maxLen) (hb : b.size ≤ maxLen) : ∃ l, keyOf Try.prog 74 (.agg #[.string a, .string b]) = some l := by
  have hf : (Value.agg #[.string a, .string b]).formed Try.prog 74 = true := by
    have : Try.prog.cellsOf 74 = 2 := by kernel_rfl
    simp [Value.formed, Try.underlying74, this]
  obtain ⟨m, hm⟩ : ∃ m, Try.prog.types.size = m + 1 := ⟨Try.prog.types.size - 1, (Nat.succ_pred_eq_of_pos (Nat.lt_of_le_of_lt (Nat.zero_le _) rowSize)).symm⟩
  have c1 : Try.prog.cellsOf 9 = 1 := by kernel_rfl
  have c2 : Try.prog.cellsOf 74 = 2 := by kernel_rfl
  have h1 : ∀ s : ByteArray, s.size ≤ maxLen → Try.prog.keyLits (m + 1) 9 [.string s] = some [.string s.data.toList] := fun s hs => by simp [Program.keyLits, Try.underlying9, hs]
  have h2 : Try.prog.keyLits (Try.prog.types.size + 1) 74 [.string a, .string b] = some [.string a.data.toList, .string b.data.toList] := by
    rw [hm]
    unfold Program.keyLits
    rw [Try.underlying74]
    simp [c1, c2, h1 a ha, h1 b hb]
  unfold keyOf
  rw [Try.underlying74]
  have hk : Try.prog.keyType 74 = true := rowDeep
  simp only [hk, hf, Bool.and_self, if_true, Value.cells]
  rw [h2]
  exact ⟨_, rfl⟩
theorem rat_zero (w : World) : (zeroValue 65).run Try.prog w = .ok (.agg #[.int .i64 0, .int .i64 0]) w := by kernel_rfl

/-- Reduce: whether a fraction may be; of what it tells beside nothing is asked. -/
def Reduced (w : World) (b : Bool) (e : Ending) (w' : World) : Prop := ∃ x y : Int, e = .returned (.tuple #[.agg #[.int .i64 x, .int .i64 y], .bool b]) ∧ Below w.heap.size w w'
set_option maxHeartbeats 4000000 in
theorem reduce_any (n d : Int) (w : World) (hn : n ≤ 9223372036854775807) (hd : d ≤ 9223372036854775807) : Calls Try.prog 48 #[.agg #[.int .i64 n, .int .i64 d]] w (Reduced w (ratOk n d)) := by
  obtain ⟨w0, hw0⟩ : ∃ x, x = (w.alloc (.cells #[.int .i64 n, .int .i64 d] 65)).alloc (.cells #[.int .i64 0, .int .i64 0] 65) := ⟨_, rfl⟩
  have HB0 : Hid (Below w.heap.size w w0) := Lib.hid (hw0 ▸ (one_below _ _).alloc (by simp) _)
  have H1 : Hid (w0.heap[w.heap.size]? = some (.cells #[.int .i64 n, .int .i64 d] 65 (0, 0))) := Lib.hid (hw0 ▸ blk (one_below _ _) (by simp) (heap_alloc_new _ _))
  have H2 : Hid (w0.heap[w.heap.size + 1]? = some (.cells #[.int .i64 0, .int .i64 0] 65 (0, 0))) := Lib.hid (hw0 ▸ (by have := heap_alloc_new (w.alloc (.cells #[.int .i64 n, .int .i64 d] 65)) (.cells #[.int .i64 0, .int .i64 0] 65); simpa using this))
  have IR := Lib.hid (fun W => isRatio_any n d W)
  have c0 := cell_blk H1.out 0
  have c1 := cell_blk H1.out 1
  cases hr : ratOk n d
  · rw [hr] at IR
    clear hn hd hr
    go_enter Try.func48, Try.ntmps48
    go_wp2_with fail
    rw [← hw0]
    clear hw0
    go_wp2_with (first
      | ((with_reducible refine (IR.out _).mono ?_); rintro e w2 ⟨rfl, hb2⟩; have z0 := cell_blk (blk hb2 (lt_blk H2.out) H2.out) 0; have z1 := cell_blk (blk hb2 (lt_blk H2.out) H2.out) 1; have f0 := free_blk (blk hb2 (lt_blk H2.out) H2.out) 0; have f1 := free_blk (blk hb2 (lt_blk H2.out) H2.out) 1; have HB2 := Lib.hid (HB0.out.trans (hb2.mono HB0.out.size)); clear hb2)
      | fail)
    exact bodyPost_ret (v := .tuple #[.agg #[.int .i64 0, .int .i64 0], .bool false]) (by simp [results, Try.results48, go_sem, z0, z1]) rfl ⟨0, 0, rfl, (HB2.out.setCell (by simp) _).setCell (by simp) _⟩
  · rw [hr] at IR
    obtain ⟨r0, r1⟩ : 0 ≤ n ∧ 1 ≤ d := by simpa [ratOk] using hr
    have HR := Lib.hid (And.intro r0 (And.intro r1 (And.intro hn hd)))
    clear hn hd hr r0 r1
    go_enter Try.func48, Try.ntmps48
    go_wp2_with fail
    rw [← hw0]
    clear hw0
    go_wp2_with (first
      | ((with_reducible refine (IR.out _).mono ?_); rintro e w2 ⟨rfl, hb2⟩; have HZ := Lib.hid (blk hb2 (lt_blk H2.out) H2.out); have HN := Lib.hid (blk hb2 (lt_blk H1.out) H1.out); have HB2 := Lib.hid (HB0.out.trans (hb2.mono HB0.out.size)); clear hb2 c0 c1; have c0 := cell_blk HN.out 0; have c1 := cell_blk HN.out 1)
      | fail)
    go_quiet (fail)
    go_wp2_with fail
    go_loopw [4, 5] (fun a b wr => ∃ x y : Int, a = .int .i64 x ∧ b = .int .i64 y ∧ 0 ≤ x ∧ 0 ≤ y ∧ x ≤ 9223372036854775807 ∧ y ≤ 9223372036854775807 ∧ (y = 0 → 1 ≤ x) ∧ Below w2.heap.size w2 wr) (fun _ b _ => (intOf b).toNat)
    case atStart => exact ⟨n, d, rfl, rfl, by have := HR.out; omega, by have := HR.out; omega, by have := HR.out; omega, by have := HR.out; omega, by have := HR.out; omega, below_drewN (Below.refl _ _) nq⟩
    case round =>
      obtain ⟨x, y, rfl, rfl, x0, y0, x1, y1, hxy, hbel⟩ := hrel
      have HX := Lib.hid (And.intro x0 (And.intro y0 (And.intro x1 (And.intro y1 hxy))))
      have HBW := Lib.hid hbel
      clear x1 y1 hxy
      by_cases hy : y = 0
      · subst hy
        have tx : ¬ x = 0 := by have := HX.out; omega
        have HN2 := Lib.hid (blk hbel (lt_blk HN.out) HN.out)
        have HZ2 := Lib.hid (blk hbel (lt_blk HZ.out) HZ.out)
        have q0 := cell_blk HN2.out 0
        have q1 := cell_blk HN2.out 1
        have z0 := cell_blk HZ2.out 0
        have z1 := cell_blk HZ2.out 1
        have f0 := free_blk HZ2.out 0
        have f1 := free_blk HZ2.out 1
        obtain ⟨p1, hp1⟩ : ∃ p, p = wrap64 (n.tdiv x) := ⟨_, rfl⟩
        obtain ⟨p2, hp2⟩ : ∃ p, p = wrap64 (d.tdiv x) := ⟨_, rfl⟩
        have e1 := hp1.symm
        have e2 := hp2.symm
        have HXS : Hid (w.heap.size + 1 < wr.heap.size) := Lib.hid (lt_blk HZ2.out)
        clear x0 y0 hbel hp1 hp2
        go_wp2_with fail
        go_still_tail 9, (by kernel_rfl)
        change wpList _ _ _ _ _ wr.drew
        go_wp2_with fail
        have hb := HB2.out.trans (HBW.out.mono HB2.out.size)
        exact bodyPost_ret (v := .tuple #[.agg #[.int .i64 p1, .int .i64 p2], .bool true]) (by simp [results, Try.results48, go_sem, z0, z1, e1, e2]) rfl ⟨p1, p2, rfl, ((hb.setCell (by simp) _).setCell (by simp) _).drew⟩
      · have ty : (y != 0) = true := by simp [hy]
        have tyy : ¬ y = 0 := hy
        have hm : x.tmod y = x % y := Int.tmod_eq_emod_of_nonneg x0
        have HM := Lib.hid (And.intro (Int.emod_nonneg x hy) (Int.emod_lt_of_pos x (show 0 < y by omega)))
        clear hy x0 y0 hbel
        go_wp2_with fail
        go_quiet (fail)
        go_wp2_with fail
        go_roundw
        case rel => exact ⟨y, x % y, rfl, rfl, by have := HX.out; omega, by have := HM.out; omega, by have := HX.out; omega, by have := HX.out; have := HM.out; omega, by have := HX.out; omega, below_drewN HBW.out nq⟩
        case measure => (have := HM.out; simp [intOf]; omega)

theorem rt_cells {w : World} {b : Nat} {T : TypeId} {r : Rt} (h : w.heap[b]? = some (.cells r.cells T (0, 0))) : w.cell? ⟨b, 0, none⟩ = some (.string r.code) ∧ w.cell? ⟨b, 1, none⟩ = some (.string r.org) ∧ w.cell? ⟨b, 2, none⟩ = some (.int .i64 r.day) ∧ w.cell? ⟨b, 3, none⟩ = some (.int .i64 r.num) ∧ w.cell? ⟨b, 4, none⟩ = some (.int .i64 r.den) :=
  ⟨cell_blk h 0, cell_blk h 1, cell_blk h 2, cell_blk h 3, cell_blk h 4⟩
set_option maxHeartbeats 4000000 in
theorem may_any (r : Rt) (w : World) (hf : r.fit) : Calls Try.prog 30 #[.agg r.cells] w (RetB w r.ok) := by
  obtain ⟨c, o, d, n, e⟩ := r
  have HRD := Lib.hid (fun W => reduce_any n e W hf.n.2 hf.d.2)
  have HN1 := Lib.hid (fun W => dutyName_any c W)
  have HN2 := Lib.hid (fun W => dutyName_any o W)
  have HX0 := Lib.hid (heap_alloc_new w (.cells #[.string c, .string o, .int .i64 d, .int .i64 n, .int .i64 e] 67))
  have HB0 := Lib.hid (one_below w (.cells #[.string c, .string o, .int .i64 d, .int .i64 n, .int .i64 e] 67))
  obtain ⟨b, hb⟩ : ∃ b, b = Rt.ok ⟨c, o, d, n, e⟩ := ⟨_, rfl⟩
  rw [← hb]
  have HBB := Lib.hid hb
  clear hb hf
  simp only [Rt.ok, Rt.cells] at HBB ⊢
  cases h1 : nameOk c
  all_goals
    cases h2 : o.toList.isEmpty
    all_goals
      cases h3 : nameOk o
      all_goals
        rw [h1, h2, h3] at HBB
        rw [h1] at HN1
        rw [h3] at HN2
        clear h1 h3
        by_cases h4 : d = 0
        all_goals
          first | (have t4 : (d != 0) = false := by simp [h4]) | (have t4 : (d != 0) = true := by simp [h4])
          first | rw [decide_eq_true h4] at HBB | rw [decide_eq_false h4] at HBB
          clear h4
          go_enter Try.func30, Try.ntmps30
          go_wp2_with (first
            | ((with_reducible refine (HN1.out _).mono ?_); rintro e w2 ⟨rfl, hb2⟩; have HX2 := Lib.hid (blk hb2 (lt_blk HX0.out) HX0.out); have HB2 := Lib.hid (below_then HB0.out hb2); have c0 := cell_blk HX2.out 0; have c1 := cell_blk HX2.out 1; have c2 := cell_blk HX2.out 2; have c3 := cell_blk HX2.out 3; have c4 := cell_blk HX2.out 4; clear hb2)
            | ((with_reducible refine (HN2.out _).mono ?_); rintro e w3 ⟨rfl, hb3⟩; have HX2 := Lib.hid (blk hb3 (lt_blk HX2.out) HX2.out); have HB2 := Lib.hid (below_then HB2.out hb3); have c0 := cell_blk HX2.out 0; have c1 := cell_blk HX2.out 1; have c2 := cell_blk HX2.out 2; have c3 := cell_blk HX2.out 3; have c4 := cell_blk HX2.out 4; clear hb3)
            | ((with_reducible refine (HRD.out _).mono ?_); rintro e w4 ⟨x, y, rfl, hb4⟩; have HB4 := Lib.hid (below_then HB2.out hb4); clear hb4)
            | fail)
          go_ret
          first
            | exact retB (by rw [HBB.out]; simp) (HB4.out.alloc HB4.out.size _)
            | exact retB (by rw [HBB.out]; simp) HB2.out
end Go.Proofs.Ytehlhfcaajhhaaa.Sc
