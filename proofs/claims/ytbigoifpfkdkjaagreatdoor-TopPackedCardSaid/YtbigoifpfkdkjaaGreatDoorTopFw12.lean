/- What is packed of few goods are few and short boxes; an order as an argument. -/
import Derived.Test.YtbigoifpfkdkjaaGreatDoorTopPl12
import Derived.Test.YtbigoifpfkdkjaaGreatDoorSmall4
import Derived.Test.YtbigoifpfkdkjaaGreatDoorBxL12
namespace Go.Proofs.YtbigoifpfkdkjaaGreatDoor.Sc
open Go Go.RowKit Go.ChangeShapes Go.WideShapes Go.ChangeAt
set_option maxRecDepth 100000

theorem boxOk_few {t : List Gd} {b : Bx} (h : boxOk t b = true) : b.lots.length ≤ t.length := by
  obtain ⟨-, -, h2, h3⟩ := boxOk_iff.1 h
  have := length_sub (b.lots.map Lt.good) (codes t) h3 (fun n hn => by
    obtain ⟨x, hx, rfl⟩ := List.mem_map.1 hn
    obtain ⟨g, hg⟩ := ((goP_iff.1 h2).2.1 x hx).2
    obtain ⟨h4, h5⟩ := gOf_mem hg
    exact List.mem_map.2 ⟨g, h4, h5⟩)
  simpa [codes] using this
theorem top_few {t : List Gd} {l : List Lt} {R : List Bv} (h : TopPk t l (R.map Bv.b)) (ht : t.length ≤ 12) : BxFew R := by
  have hb : ∀ x ∈ R, boxOk t x.b = true := fun x hx => h.boxes _ (List.mem_map.2 ⟨x, hx, rfl⟩)
  have hl := h.len
  rw [List.length_map] at hl
  refine ⟨by omega, fun x hx => by have := boxOk_few (hb x hx); omega, fun x hx y hy => ?_⟩
  have := lot_range ((boxOk_all (hb x hx)) y hy).1
  omega
theorem top_cnt {t : List Gd} {l : List Lt} {bs : List Bx} (h : TopPk t l bs) : ∀ x ∈ l, x.cnt ≤ 1099511627776 := fun x hx => by
  have := lot_range (h.lots x hx).1
  omega
theorem lines_of {H : Type} {enc : TypeId × Value → H} {W : World} {base : Nat} {spare : Nat → Bool} {held : Bool} {fuel : Nat} {c : Value} {x : DataW H × List MemPlace}
    (h : DataW.trod enc Tryz.prog W base spare held fuel 78 [c] = some x) : ∃ l : List Ln, Sl W 3 c (l.map Ln.row) := by
  have h1 := slice_one Tryz.underlying78 h
  rw [← h1] at h
  obtain ⟨rows, hs, _, hg⟩ := open_sl (sz := 3) (Good := fun cs => ∃ d : { d : Ln // True }, cs = d.1.row) Tryz.underlying78 (by kernel_rfl) h1 h (fun n cs y hy => by
    obtain ⟨hl, m, hg⟩ := row_fields Tryz.underlying167 (by kernel_rfl) (by kernel_rfl) hy
    match cs, hl with
    | [c0, c1, c2], _ =>
      obtain ⟨z0, g0⟩ := hg 0 _ rfl c0 rfl
      obtain ⟨s0, e0, _, f0⟩ := DataW.trod_string Tryz.underlying9 g0
      obtain rfl : c0 = .string s0 := by simpa using e0
      obtain ⟨z1, g1⟩ := hg 1 _ rfl c1 rfl
      obtain ⟨s1, e1, _, f1⟩ := DataW.trod_int Tryz.underlying3 g1
      obtain rfl : c1 = .int .i64 s1 := by simpa using e1
      obtain ⟨z2, g2⟩ := hg 2 _ rfl c2 rfl
      obtain ⟨s2, e2, _, f2⟩ := DataW.trod_int Tryz.underlying2 g2
      obtain rfl : c2 = .int .i64 s2 := by simpa using e2
      exact ⟨⟨⟨s0, s1, s2⟩, trivial⟩, rfl⟩) (by decide)
  obtain ⟨l, rfl⟩ := choose_map (f := fun d : { d : Ln // True } => d.1.row) rows hg
  exact ⟨l.map Subtype.val, by simpa [List.map_map, Function.comp_def] using hs⟩
/-- An argument that is an order. -/
theorem open_order {H : Type} {enc : TypeId × Value → H} {W : World} {base : Nat} {v : Value} {d : DataW H} {p : List MemPlace} (hv : Value.okWide Tryz.prog W .any base 80 v)
    (h : DataW.Trod enc Tryz.prog W 0 (fun _ => true) true 80 v d p) : ∃ (s0 s1 s2 s3 s4 s5 : ByteArray) (tm : Int) (L : List Ln) (u : Value), v = .agg #[.string s0, .string s1, .string s2, .string s3, .string s4, .string s5, .int .i64 tm, u] ∧ Sl W 3 u (L.map Ln.row) := by
  obtain ⟨cs, rfl, hsz⟩ := okWide_struct Tryz.underlying80 hv
  obtain ⟨fuel, hf⟩ := h
  obtain ⟨hl, m, hg⟩ := row_fields Tryz.underlying80 (by kernel_rfl) (by kernel_rfl) hf
  obtain ⟨cs⟩ := cs
  simp only [Value.cells] at hl hg
  match cs, hl with
  | [c0, c1, c2, c3, c4, c5, c6, c7], _ =>
    obtain ⟨z0, g0⟩ := hg 0 _ rfl c0 rfl
    obtain ⟨s0, e0, _, f0⟩ := DataW.trod_string Tryz.underlying9 g0
    obtain rfl : c0 = .string s0 := by simpa using e0
    obtain ⟨z1, g1⟩ := hg 1 _ rfl c1 rfl
    obtain ⟨s1, e1, _, f1⟩ := DataW.trod_string Tryz.underlying9 g1
    obtain rfl : c1 = .string s1 := by simpa using e1
    obtain ⟨z2, g2⟩ := hg 2 _ rfl c2 rfl
    obtain ⟨s2, e2, _, f2⟩ := DataW.trod_string Tryz.underlying9 g2
    obtain rfl : c2 = .string s2 := by simpa using e2
    obtain ⟨z3, g3⟩ := hg 3 _ rfl c3 rfl
    obtain ⟨s3, e3, _, f3⟩ := DataW.trod_string Tryz.underlying9 g3
    obtain rfl : c3 = .string s3 := by simpa using e3
    obtain ⟨z4, g4⟩ := hg 4 _ rfl c4 rfl
    obtain ⟨s4, e4, _, f4⟩ := DataW.trod_string Tryz.underlying9 g4
    obtain rfl : c4 = .string s4 := by simpa using e4
    obtain ⟨z5, g5⟩ := hg 5 _ rfl c5 rfl
    obtain ⟨s5, e5, _, f5⟩ := DataW.trod_string Tryz.underlying9 g5
    obtain rfl : c5 = .string s5 := by simpa using e5
    obtain ⟨z6, g6⟩ := hg 6 _ rfl c6 rfl
    obtain ⟨s6, e6, _, f6⟩ := DataW.trod_int Tryz.underlying3 g6
    obtain rfl : c6 = .int .i64 s6 := by simpa using e6
    obtain ⟨z7, g7⟩ := hg 7 _ rfl c7 rfl
    obtain ⟨l, h1⟩ := lines_of g7
    exact ⟨s0, s1, s2, s3, s4, s5, s6, l, c7, rfl, h1⟩
end Go.Proofs.YtbigoifpfkdkjaaGreatDoor.Sc
