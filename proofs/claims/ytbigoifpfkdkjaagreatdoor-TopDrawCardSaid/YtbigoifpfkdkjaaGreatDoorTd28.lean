/- Which classes lie apart: the program's table, the document's rows. Parts of a slice: 'x[:n]', 'x[n:]'. Goods and lots that are one; rows of them as arguments. -/
import Derived.Test.YtbigoifpfkdkjaaGreatDoorTd01
import Derived.Test.YtbigoifpfkdkjaaGreatDoorTd16
import Derived.Test.YtbigoifpfkdkjaaGreatDoorTd03
import Derived.Test.YtbigoifpfkdkjaaGreatDoorTd26
import Derived.Laws.StructEq
import Derived.ChangeMaps5
import Derived.BigQuiet
namespace Go.Proofs.YtbigoifpfkdkjaaGreatDoor.Sc
open Go Go.RowKit Go.ChangeShapes Go.WideShapes Go.ChangeAt
set_option maxRecDepth 100000

def apPairs : List (Int × Int) := [(1, 2), (1, 3), (1, 4), (1, 5), (1, 6), (1, 7), (1, 8), (1, 9), (2, 3), (2, 5), (3, 5), (3, 8), (4, 5), (4, 8), (5, 6), (5, 8), (7, 9)]
def apHas (a b : Int) (l : List (Int × Int)) : Bool := l.any fun p => decide (p.1 = a) && decide (p.2 = b)
def apartM (a b : Int) : Bool := if b < a then apHas b a apPairs else apHas a b apPairs
/-- The program's table as it was laid. -/
structure ApT (w : World) : Prop where
  lt : 0 < w.heap.size
  c0 : w.cell? ⟨0, 0, none⟩ = some (.int .i64 0)
  c1 : w.cell? ⟨0, 1, none⟩ = some (.int .i64 1020)
  c2 : w.cell? ⟨0, 2, none⟩ = some (.int .i64 40)
  c3 : w.cell? ⟨0, 3, none⟩ = some (.int .i64 288)
  c4 : w.cell? ⟨0, 4, none⟩ = some (.int .i64 288)
  c5 : w.cell? ⟨0, 5, none⟩ = some (.int .i64 320)
  c6 : w.cell? ⟨0, 6, none⟩ = some (.int .i64 0)
  c7 : w.cell? ⟨0, 7, none⟩ = some (.int .i64 512)
  c8 : w.cell? ⟨0, 8, none⟩ = some (.int .i64 0)
  c9 : w.cell? ⟨0, 9, none⟩ = some (.int .i64 0)
theorem ApT.below {w w' : World} (h : ApT w) (hb : Below w.heap.size w w') : ApT w' := by
  have e : ∀ j, w'.cell? ⟨0, j, none⟩ = w.cell? ⟨0, j, none⟩ := fun j => hb.cell (p := ⟨0, j, none⟩) h.lt
  exact ⟨Nat.lt_of_lt_of_le h.lt hb.size, (e 0).trans h.c0, (e 1).trans h.c1, (e 2).trans h.c2, (e 3).trans h.c3, (e 4).trans h.c4, (e 5).trans h.c5, (e 6).trans h.c6, (e 7).trans h.c7, (e 8).trans h.c8, (e 9).trans h.c9⟩
theorem apHas_in {a b : Int} {l : List (Int × Int)} (h : apHas a b l = true) : (a, b) ∈ l := by
  obtain ⟨p, hp, hh⟩ := List.any_eq_true.1 h
  simp only [Bool.and_eq_true, decide_eq_true_eq] at hh
  obtain ⟨rfl, rfl⟩ := hh
  exact hp
theorem apPairs_range : ∀ p ∈ apPairs, 1 ≤ p.1 ∧ p.1 < p.2 ∧ p.2 ≤ 9 := by decide
theorem apart_range {a b : Int} (h : apartM a b = true) : (1 ≤ a ∧ a ≤ 9) ∧ (1 ≤ b ∧ b ≤ 9) ∧ ¬ a = b := by
  unfold apartM at h
  split at h
  · have := apPairs_range _ (apHas_in h); simp only at this; omega
  · have := apPairs_range _ (apHas_in h); simp only at this; omega
theorem apart_out {a b : Int} (h : ¬ (0 ≤ a ∧ a < 10 ∧ 0 ≤ b ∧ b < 10)) : apartM a b = false := by
  cases hh : apartM a b with
  | false => rfl
  | true => have := apart_range hh; omega
theorem apart_comm (a b : Int) : apartM a b = apartM b a := by
  unfold apartM
  by_cases h1 : b < a
  · rw [if_pos h1, if_neg (by omega)]
  · by_cases h2 : a < b
    · rw [if_neg h1, if_pos h2]
    · obtain rfl : a = b := by omega
      rfl
theorem ten {a : Int} (h0 : 0 ≤ a) (h1 : a < 10) : a = 0 ∨ a = 1 ∨ a = 2 ∨ a = 3 ∨ a = 4 ∨ a = 5 ∨ a = 6 ∨ a = 7 ∨ a = 8 ∨ a = 9 := by omega
set_option maxHeartbeats 0 in
theorem apart_any (a b : Int) (w : World) (h : ApT w) : Calls Tryz.prog 89 #[.int .i64 a, .int .i64 b] w (RetB w (apartM a b)) := by
  by_cases h0 : a < 0
  · have t0 : decide (a < 0) = true := decide_eq_true h0
    have HQ : Hid (apartM a b = false) := Lib.hid (apart_out (by omega))
    clear h0 h
    go_enter Tryz.func89, Tryz.ntmps89
    go_wp2
    go_ret
    exact retB HQ.out.symm (Below.refl _ _)
  have t0 : decide (a < 0) = false := decide_eq_false h0
  by_cases h1 : 10 ≤ a
  · have t1 : decide (10 ≤ a) = true := decide_eq_true h1
    have HQ : Hid (apartM a b = false) := Lib.hid (apart_out (by omega))
    clear h0 h1 h
    go_enter Tryz.func89, Tryz.ntmps89
    go_wp2
    go_ret
    exact retB HQ.out.symm (Below.refl _ _)
  have t1 : decide (10 ≤ a) = false := decide_eq_false h1
  by_cases h2 : b < 0
  · have t2 : decide (b < 0) = true := decide_eq_true h2
    have HQ : Hid (apartM a b = false) := Lib.hid (apart_out (by omega))
    clear h0 h1 h2 h
    go_enter Tryz.func89, Tryz.ntmps89
    go_wp2
    go_ret
    exact retB HQ.out.symm (Below.refl _ _)
  have t2 : decide (b < 0) = false := decide_eq_false h2
  by_cases h3 : 10 ≤ b
  · have t3 : decide (10 ≤ b) = true := decide_eq_true h3
    have HQ : Hid (apartM a b = false) := Lib.hid (apart_out (by omega))
    clear h0 h1 h2 h3 h
    go_enter Tryz.func89, Tryz.ntmps89
    go_wp2
    go_ret
    exact retB HQ.out.symm (Below.refl _ _)
  clear t0 t1 t2
  have ha := ten (a := a) (by omega) (by omega)
  have hb := ten (a := b) (by omega) (by omega)
  clear h0 h1 h2 h3
  obtain ⟨hlt, c0, c1, c2, c3, c4, c5, c6, c7, c8, c9⟩ := h
  rcases ha with rfl | rfl | rfl | rfl | rfl | rfl | rfl | rfl | rfl | rfl <;> rcases hb with rfl | rfl | rfl | rfl | rfl | rfl | rfl | rfl | rfl | rfl
  all_goals
    go_enter Tryz.func89, Tryz.ntmps89
    go_wp2
    go_ret
    exact retB (by decide) (Below.refl _ _)
theorem alloc_fold : ∀ (objs : List Obj) (w : World) (j : Nat) (o : Obj), objs[j]? = some o → (objs.foldl World.alloc w).heap[w.heap.size + j]? = some o
  | [], _, _, _, h => by simp at h
  | x :: r, w, 0, o, h => by
    obtain rfl : x = o := by simpa using h
    have hb : ∀ (l : List Obj) (w : World), Below w.heap.size w (l.foldl World.alloc w) := by
      intro l
      induction l with
      | nil => exact fun w => Below.refl _ _
      | cons y l ih => exact fun w => (one_below w y).trans ((ih (w.alloc y)).mono (by simp))
    exact blk (hb r (w.alloc x)) (by simp) (heap_alloc_new w x)
  | x :: r, w, j + 1, o, h => by
    have := alloc_fold r (w.alloc x) j o (by simpa using h)
    rw [List.foldl_cons]
    rw [← this]
    congr 1
    simp; omega
theorem fold_below (l : List Obj) : ∀ w : World, Below w.heap.size w (l.foldl World.alloc w) := by
  induction l with
  | nil => exact fun w => Below.refl _ _
  | cons y l ih => exact fun w => (one_below w y).trans ((ih (w.alloc y)).mono (by simp))
end Go.Proofs.YtbigoifpfkdkjaaGreatDoor.Sc
namespace Go.Proofs.YtbigoifpfkdkjaaGreatDoor.Sc
open Go Go.RowKit
set_option maxRecDepth 100000

/-- 'x[n:]' as a value. -/
def cutV (a : Option Addr) (len cap k sz : Nat) : Value := .slice (if cap = k then a else a.map (·.add (k * sz))) (len - k) (cap - k)
theorem run_slice_from {P : Program} {w : World} {t e : TypeId} {i : TypeInfo} {sz : Nat} (ht : P.underlying t = some (.slice e)) (hi : P.info? e = some i) (hs : i.size = sz) (a : Option Addr) (len cap k : Nat) (h : k ≤ len) :
    (Instr.slice t (.slice a len cap) (some (.int .i64 k)) none none).run P w = .ok (cutV a len cap k sz) w := by
  subst hs
  have h1 : (0 : Int) ≤ k ∧ (k : Int) ≤ len := ⟨by omega, by omega⟩
  simp [Instr.slice, run_underlying ht, Instr.sliceBounds, Instr.sliceBound, asIntOf, h1, sizeOf, typeInfo, hi, cutV]
  exact fun hlt => absurd hlt (by omega)
theorem add_off (b off n : Nat) : Addr.add ⟨b, off, none⟩ n = ⟨b, off + n, none⟩ := by
  unfold Addr.add
  split
  · rename_i h; subst h; rfl
  · rfl
theorem Sl.drop {w : World} {sz : Nat} {a : Option Addr} {n c k : Nat} {xs : List (List Value)} (h : Sl w sz (.slice a n c) xs) (hk : k ≤ xs.length) : Sl w sz (cutV a n c k sz) (xs.drop k) := by
  rcases h with ⟨rfl, a', c', hv, hn⟩ | ⟨b, off, cap, hv, hb, h1, h2, hc⟩
  · simp only [Value.slice.injEq] at hv
    obtain ⟨rfl, rfl, rfl⟩ := hv
    obtain rfl : k = 0 := by simpa using hk
    refine .inl ⟨by simp, _, _, rfl, fun h => ?_⟩
    split at h
    · omega
    · cases a with
      | none => rw [hn rfl]
      | some a => simp at h
  · simp only [Value.slice.injEq] at hv
    obtain ⟨rfl, rfl, rfl⟩ := hv
    by_cases hlt : c = k
    · subst hlt
      have e : xs.drop c = [] := List.drop_eq_nil_of_le h1
      refine .inl ⟨e, some ⟨b, off, none⟩, 0, ?_, by simp⟩
      rw [cutV, if_pos rfl, Nat.sub_eq_zero_of_le h1, Nat.sub_self]
    · refine .inr ⟨b, off + k * sz, c - k, ?_, hb, by simp; omega, by omega, fun i r hr j u hu => ?_⟩
      · rw [cutV, if_neg hlt, List.length_drop]
        simp only [Option.map_some, add_off]
      · rw [List.getElem?_drop] at hr
        have := hc (k + i) r hr j u hu
        rw [show off + k * sz + i * sz + j = off + (k + i) * sz + j by rw [Nat.add_mul]; omega]
        exact this
end Go.Proofs.YtbigoifpfkdkjaaGreatDoor.Sc
namespace Go.Proofs.YtbigoifpfkdkjaaGreatDoor.Sc
open Go Go.RowKit Go.ChangeShapes Go.WideShapes Go.ChangeAt
set_option maxRecDepth 100000

instance decLt : DecidableEq Lt := fun x y => decidable_of_iff (x.good = y.good ∧ x.cnt = y.cnt) (by cases x; cases y; simp)
def inRow (n : Int) : List Value := [.int .i64 n]
def Lt.cells (x : Lt) : Array Value := #[.string x.good, .int .i64 x.cnt]
def Gd.cells (g : Gd) : Array Value := #[.string g.code, .int .i64 g.cls, .int .i64 g.wt, .int .i64 g.vol]
def LtEq (x y : Lt) : Bool := x.good.toList == y.good.toList && x.cnt == y.cnt
theorem ltEq_iff (x y : Lt) : LtEq x y = decide (x = y) := by
  obtain ⟨a, b⟩ := x
  obtain ⟨a', b'⟩ := y
  simp only [LtEq, str_beq, Lt.mk.injEq]
  rw [Bool.eq_iff_iff]
  simp
theorem ltEq_yes {x y : Lt} (h : x = y) : LtEq x y = true := by rw [ltEq_iff, decide_eq_true h]
theorem ltEq_no {x y : Lt} (h : ¬ x = y) : LtEq x y = false := by rw [ltEq_iff, decide_eq_false h]
theorem ltHeld : Tryz.prog.stoodInHeld 107 = false := by kernel_rfl
theorem ltGuard : Tryz.prog.eqGuardType Tryz.prog.depth 107 = false := by kernel_rfl
theorem ltStruct : Tryz.prog.underlying 107 = some (.struct (Tryz.prog.fieldsOf 107)) := by kernel_rfl
theorem run_neq_lt (w : World) (x y : Lt) : (binOp .neq 107 (.agg x.cells) (.agg y.cells)).run Tryz.prog w = .ok (.bool (!LtEq x y)) w := by
  rw [run_neq_struct, run_equalIn_agg w 9999 _ _ _ ltStruct ltHeld]
  unfold Lt.cells
  go_simp
  unfold LtEq
  by_cases h0 : x.good.toList = y.good.toList <;> by_cases h1 : x.cnt = y.cnt <;> simp [h0, h1]
def GdEq (x y : Gd) : Bool := x.code.toList == y.code.toList && (x.cls == y.cls && (x.wt == y.wt && x.vol == y.vol))
theorem gdEq_self (x : Gd) : GdEq x x = true := by simp [GdEq]
theorem gdHeld : Tryz.prog.stoodInHeld 84 = false := by kernel_rfl
theorem gdGuard : Tryz.prog.eqGuardType Tryz.prog.depth 84 = false := by kernel_rfl
theorem gdStruct : Tryz.prog.underlying 84 = some (.struct (Tryz.prog.fieldsOf 84)) := by kernel_rfl
theorem run_eql_gd (w : World) (x y : Gd) : (binOp .eql 84 (.agg x.cells) (.agg y.cells)).run Tryz.prog w = .ok (.bool (GdEq x y)) w := by
  rw [run_eql_struct, run_equalIn_agg w 9999 _ _ _ gdStruct gdHeld]
  unfold Gd.cells
  go_simp
  unfold GdEq
  by_cases h0 : x.code.toList = y.code.toList <;> by_cases h1 : x.cls = y.cls <;> by_cases h2 : x.wt = y.wt <;> by_cases h3 : x.vol = y.vol <;> simp [h0, h1, h2, h3]
/-- An argument that is a slice of these. -/
theorem open_goods {H : Type} {enc : TypeId × Value → H} {W : World} {base : Nat} {v : Value} {d : DataW H} {p : List MemPlace} (hv : Value.okWide Tryz.prog W .any base 81 v)
    (h : DataW.Trod enc Tryz.prog W 0 (fun _ => true) true 81 v d p) : ∃ l : List Gd, Sl W 4 v (l.map Gd.row) ∧ ∀ h ∈ l, h.fit := by
  obtain ⟨a, len, cap, rfl⟩ := okWide_slice Tryz.underlying81 hv
  obtain ⟨fuel, hf⟩ := h
  obtain ⟨rows, hs, _, hg⟩ := open_sl (sz := 4) (Good := fun cs => ∃ d : { d : Gd // d.fit }, cs = d.1.row) Tryz.underlying81 (by kernel_rfl) rfl hf (fun n cs y hy => by
    obtain ⟨hl, m, hg⟩ := row_fields Tryz.underlying84 (by kernel_rfl) (by kernel_rfl) hy
    match cs, hl with
    | [c0, c1, c2, c3], _ =>
      obtain ⟨z0, g0⟩ := hg 0 _ rfl c0 rfl
      obtain ⟨s0, e0, _, f0⟩ := DataW.trod_string Tryz.underlying9 g0
      obtain rfl : c0 = .string s0 := by simpa using e0
      obtain ⟨z1, g1⟩ := hg 1 _ rfl c1 rfl
      obtain ⟨s1, e1, _, f1⟩ := DataW.trod_int Tryz.underlying3 g1
      obtain rfl : c1 = .int .i64 s1 := by simpa using e1
      obtain ⟨z2, g2⟩ := hg 2 _ rfl c2 rfl
      obtain ⟨s2, e2, _, f2⟩ := DataW.trod_int Tryz.underlying3 g2
      obtain rfl : c2 = .int .i64 s2 := by simpa using e2
      obtain ⟨z3, g3⟩ := hg 3 _ rfl c3 rfl
      obtain ⟨s3, e3, _, f3⟩ := DataW.trod_int Tryz.underlying3 g3
      obtain rfl : c3 = .int .i64 s3 := by simpa using e3
      exact ⟨⟨⟨s0, s1, s2, s3⟩, ⟨f0⟩⟩, rfl⟩) (by decide)
  obtain ⟨l, rfl⟩ := choose_map (f := fun d : { d : Gd // d.fit } => d.1.row) rows hg
  refine ⟨l.map Subtype.val, by simpa [List.map_map, Function.comp_def] using hs, fun h hh => ?_⟩
  obtain ⟨d, _, rfl⟩ := List.mem_map.1 hh
  exact d.2

/-- An argument that is a slice of these. -/
theorem open_lots {H : Type} {enc : TypeId × Value → H} {W : World} {base : Nat} {v : Value} {d : DataW H} {p : List MemPlace} (hv : Value.okWide Tryz.prog W .any base 88 v)
    (h : DataW.Trod enc Tryz.prog W 0 (fun _ => true) true 88 v d p) : ∃ l : List Lt, Sl W 2 v (l.map Lt.row) ∧ ∀ h ∈ l, h.fit := by
  obtain ⟨a, len, cap, rfl⟩ := okWide_slice Tryz.underlying88 hv
  obtain ⟨fuel, hf⟩ := h
  obtain ⟨rows, hs, _, hg⟩ := open_sl (sz := 2) (Good := fun cs => ∃ d : { d : Lt // d.fit }, cs = d.1.row) Tryz.underlying88 (by kernel_rfl) rfl hf (fun n cs y hy => by
    obtain ⟨hl, m, hg⟩ := row_fields Tryz.underlying107 (by kernel_rfl) (by kernel_rfl) hy
    match cs, hl with
    | [c0, c1], _ =>
      obtain ⟨z0, g0⟩ := hg 0 _ rfl c0 rfl
      obtain ⟨s0, e0, _, f0⟩ := DataW.trod_string Tryz.underlying9 g0
      obtain rfl : c0 = .string s0 := by simpa using e0
      obtain ⟨z1, g1⟩ := hg 1 _ rfl c1 rfl
      obtain ⟨s1, e1, _, f1⟩ := DataW.trod_int Tryz.underlying3 g1
      obtain rfl : c1 = .int .i64 s1 := by simpa using e1
      exact ⟨⟨⟨s0, s1⟩, ⟨f0⟩⟩, rfl⟩) (by decide)
  obtain ⟨l, rfl⟩ := choose_map (f := fun d : { d : Lt // d.fit } => d.1.row) rows hg
  refine ⟨l.map Subtype.val, by simpa [List.map_map, Function.comp_def] using hs, fun h hh => ?_⟩
  obtain ⟨d, _, rfl⟩ := List.mem_map.1 hh
  exact d.2

end Go.Proofs.YtbigoifpfkdkjaaGreatDoor.Sc
