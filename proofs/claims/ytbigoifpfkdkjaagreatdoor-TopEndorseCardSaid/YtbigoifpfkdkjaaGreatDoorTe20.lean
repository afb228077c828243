/- Goods and lots that are one; rows of them as arguments. -/
import Derived.Test.YtbigoifpfkdkjaaGreatDoorTe18
import Derived.Laws.StructEq
import Derived.ChangeMaps5
import Derived.BigQuiet
namespace Go.Proofs.YtbigoifpfkdkjaaGreatDoor.Sc
open Go Go.RowKit Go.ChangeShapes Go.WideShapes Go.ChangeAt
set_option maxRecDepth 100000

instance decLt : DecidableEq Lt := fun x y => decidable_of_iff (x.good = y.good ∧ x.cnt = y.cnt) (by cases x; cases y; simp)
def inRow (n : Int) : List Value := [.int .i64 n]
def Lt.cells (x : Lt) : Array Value := #[.string x.good, .int .i64 x.cnt]
def Gd.cells (g : Gd) : Array Value := #[.string g.code, .int .i64 g.cls, .int .i64 g.wt, .int .i64 g.vol]
def LtEq (x y : Lt) : Bool := x.good.toList == y.good.toList && x.cnt == y.cnt
theorem ltEq_iff (x y : Lt) : LtEq x y = decide (x = y) := by
  obtain ⟨a, b⟩ := x
  obtain ⟨a', b'⟩ := y
  simp only [LtEq, str_beq, Lt.mk.injEq]
  rw [Bool.eq_iff_iff]
  simp
theorem ltEq_yes {x y : Lt} (h : x = y) : LtEq x y = true := by rw [ltEq_iff, decide_eq_true h]
theorem ltEq_no {x y : Lt} (h : ¬ x = y) : LtEq x y = false := by rw [ltEq_iff, decide_eq_false h]
theorem ltHeld : Tryz.prog.stoodInHeld 107 = false := by kernel_rfl
theorem ltGuard : Tryz.prog.eqGuardType Tryz.prog.depth 107 = false := by kernel_rfl
theorem ltStruct : Tryz.prog.underlying 107 = some (.struct (Tryz.prog.fieldsOf 107)) := by kernel_rfl
theorem run_neq_lt (w : World) (x y : Lt) : (binOp .neq 107 (.agg x.cells) (.agg y.cells)).run Tryz.prog w = .ok (.bool (!LtEq x y)) w := by
  rw [run_neq_struct, run_equalIn_agg w 9999 _ _ _ ltStruct ltHeld]
  unfold Lt.cells
  go_simp
  unfold LtEq
  by_cases h0 : x.good.toList = y.good.toList <;> by_cases h1 : x.cnt = y.cnt <;> simp [h0, h1]
def GdEq (x y : Gd) : Bool := x.code.toList == y.code.toList && (x.cls == y.cls && (x.wt == y.wt && x.vol == y.vol))
theorem gdEq_self (x : Gd) : GdEq x x = true := by simp [GdEq]
theorem gdHeld : Tryz.prog.stoodInHeld 84 = false := by kernel_rfl
theorem gdGuard : Tryz.prog.eqGuardType Tryz.prog.depth 84 = false := by kernel_rfl
theorem gdStruct : Tryz.prog.underlying 84 = some (.struct (Tryz.prog.fieldsOf 84)) := by kernel_rfl
theorem run_eql_gd (w : World) (x y : Gd) : (binOp .eql 84 (.agg x.cells) (.agg y.cells)).run Tryz.prog w = .ok (.bool (GdEq x y)) w := by
  rw [run_eql_struct, run_equalIn_agg w 9999 _ _ _ gdStruct gdHeld]
  unfold Gd.cells
  go_simp
  unfold GdEq
  by_cases h0 : x.code.toList = y.code.toList <;> by_cases h1 : x.cls = y.cls <;> by_cases h2 : x.wt = y.wt <;> by_cases h3 : x.vol = y.vol <;> simp [h0, h1, h2, h3]
/-- An argument that is a slice of these. -/
theorem open_goods {H : Type} {enc : TypeId × Value → H} {W : World} {base : Nat} {v : Value} {d : DataW H} {p : List MemPlace} (hv : Value.okWide Tryz.prog W .any base 81 v)
    (h : DataW.Trod enc Tryz.prog W 0 (fun _ => true) true 81 v d p) : ∃ l : List Gd, Sl W 4 v (l.map Gd.row) ∧ ∀ h ∈ l, h.fit := by
  obtain ⟨a, len, cap, rfl⟩ := okWide_slice Tryz.underlying81 hv
  obtain ⟨fuel, hf⟩ := h
  obtain ⟨rows, hs, _, hg⟩ := open_sl (sz := 4) (Good := fun cs => ∃ d : { d : Gd // d.fit }, cs = d.1.row) Tryz.underlying81 (by kernel_rfl) rfl hf (fun n cs y hy => by
    obtain ⟨hl, m, hg⟩ := row_fields Tryz.underlying84 (by kernel_rfl) (by kernel_rfl) hy
    match cs, hl with
    | [c0, c1, c2, c3], _ =>
      obtain ⟨z0, g0⟩ := hg 0 _ rfl c0 rfl
      obtain ⟨s0, e0, _, f0⟩ := DataW.trod_string Tryz.underlying9 g0
      obtain rfl : c0 = .string s0 := by simpa using e0
      obtain ⟨z1, g1⟩ := hg 1 _ rfl c1 rfl
      obtain ⟨s1, e1, _, f1⟩ := DataW.trod_int Tryz.underlying3 g1
      obtain rfl : c1 = .int .i64 s1 := by simpa using e1
      obtain ⟨z2, g2⟩ := hg 2 _ rfl c2 rfl
      obtain ⟨s2, e2, _, f2⟩ := DataW.trod_int Tryz.underlying3 g2
      obtain rfl : c2 = .int .i64 s2 := by simpa using e2
      obtain ⟨z3, g3⟩ := hg 3 _ rfl c3 rfl
      obtain ⟨s3, e3, _, f3⟩ := DataW.trod_int Tryz.underlying3 g3
      obtain rfl : c3 = .int .i64 s3 := by simpa using e3
      exact ⟨⟨⟨s0, s1, s2, s3⟩, ⟨f0⟩⟩, rfl⟩) (by decide)
  obtain ⟨l, rfl⟩ := choose_map (f := fun d : { d : Gd // d.fit } => d.1.row) rows hg
  refine ⟨l.map Subtype.val, by simpa [List.map_map, Function.comp_def] using hs, fun h hh => ?_⟩
  obtain ⟨d, _, rfl⟩ := List.mem_map.1 hh
  exact d.2

/-- An argument that is a slice of these. -/
theorem open_lots {H : Type} {enc : TypeId × Value → H} {W : World} {base : Nat} {v : Value} {d : DataW H} {p : List MemPlace} (hv : Value.okWide Tryz.prog W .any base 88 v)
    (h : DataW.Trod enc Tryz.prog W 0 (fun _ => true) true 88 v d p) : ∃ l : List Lt, Sl W 2 v (l.map Lt.row) ∧ ∀ h ∈ l, h.fit := by
  obtain ⟨a, len, cap, rfl⟩ := okWide_slice Tryz.underlying88 hv
  obtain ⟨fuel, hf⟩ := h
  obtain ⟨rows, hs, _, hg⟩ := open_sl (sz := 2) (Good := fun cs => ∃ d : { d : Lt // d.fit }, cs = d.1.row) Tryz.underlying88 (by kernel_rfl) rfl hf (fun n cs y hy => by
    obtain ⟨hl, m, hg⟩ := row_fields Tryz.underlying107 (by kernel_rfl) (by kernel_rfl) hy
    match cs, hl with
    | [c0, c1], _ =>
      obtain ⟨z0, g0⟩ := hg 0 _ rfl c0 rfl
      obtain ⟨s0, e0, _, f0⟩ := DataW.trod_string Tryz.underlying9 g0
      obtain rfl : c0 = .string s0 := by simpa using e0
      obtain ⟨z1, g1⟩ := hg 1 _ rfl c1 rfl
      obtain ⟨s1, e1, _, f1⟩ := DataW.trod_int Tryz.underlying3 g1
      obtain rfl : c1 = .int .i64 s1 := by simpa using e1
      exact ⟨⟨⟨s0, s1⟩, ⟨f0⟩⟩, rfl⟩) (by decide)
  obtain ⟨l, rfl⟩ := choose_map (f := fun d : { d : Lt // d.fit } => d.1.row) rows hg
  refine ⟨l.map Subtype.val, by simpa [List.map_map, Function.comp_def] using hs, fun h hh => ?_⟩
  obtain ⟨d, _, rfl⟩ := List.mem_map.1 hh
  exact d.2

end Go.Proofs.YtbigoifpfkdkjaaGreatDoor.Sc
