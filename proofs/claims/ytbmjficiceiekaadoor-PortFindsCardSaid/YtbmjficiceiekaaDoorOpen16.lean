/- Arguments that are a voyage, voyages, legs. -/
import Derived.Test.YtbmjficiceiekaaDoorVy16
import Derived.Test.YtbmjficiceiekaaDoorLaw
namespace Go.Proofs.YtbmjficiceiekaaDoor.Sc
open Go Go.RowKit Go.ChangeShapes Go.WideShapes Go.ChangeAt Go.Deep
set_option maxRecDepth 100000

def Cl.fit (x : Cl) : Prop := x.port.size ≤ 9223372036854775807
theorem slice_one {H : Type} {enc : TypeId × Value → H} {P : Program} {w : World} {base : Nat} {spare : Nat → Bool} {held : Bool} {t e : TypeId} {fuel : Nat} {c : Value} {x : DataW H × List MemPlace}
    (ht : P.underlying t = some (.slice e)) (h : DataW.trod enc P w base spare held fuel t [c] = some x) : c.cells.toList = [c] := by
  rcases open_slice ht h with ⟨h1, _⟩ | ⟨a, len, cap, m, n, D, Pl, h1, _⟩
  · obtain rfl : c = .slice none 0 0 := by simpa using h1
    rfl
  · obtain rfl : c = .slice (some a) len cap := by simpa using h1
    rfl
theorem calls_of {H : Type} {enc : TypeId × Value → H} {W : World} {base : Nat} {spare : Nat → Bool} {held : Bool} {fuel : Nat} {c : Value} {x : DataW H × List MemPlace}
    (h : DataW.trod enc Tryd.prog W base spare held fuel 30 [c] = some x) : ∃ l : List Cl, Sl W 4 c (l.map Cl.row) ∧ ∀ h ∈ l, h.fit := by
  have h1 := slice_one Tryd.underlying30 h
  rw [← h1] at h
  obtain ⟨rows, hs, _, hg⟩ := open_sl (sz := 4) (Good := fun cs => ∃ d : { d : Cl // d.fit }, cs = d.1.row) Tryd.underlying30 (by kernel_rfl) h1 h (fun n cs y hy => by
    obtain ⟨hl, m, hg⟩ := row_fields Tryd.underlying39 (by kernel_rfl) (by kernel_rfl) hy
    match cs, hl with
    | [c0, c1, c2, c3], _ =>
      obtain ⟨z0, g0⟩ := hg 0 _ rfl c0 rfl
      obtain ⟨s0, e0, _, f0⟩ := DataW.trod_string Tryd.underlying9 g0
      obtain rfl : c0 = .string s0 := by simpa using e0
      obtain ⟨z1, g1⟩ := hg 1 _ rfl c1 rfl
      obtain ⟨s1, e1, _, f1⟩ := DataW.trod_int Tryd.underlying3 g1
      obtain rfl : c1 = .int .i64 s1 := by simpa using e1
      obtain ⟨z2, g2⟩ := hg 2 _ rfl c2 rfl
      obtain ⟨s2, e2, _, f2⟩ := DataW.trod_int Tryd.underlying3 g2
      obtain rfl : c2 = .int .i64 s2 := by simpa using e2
      obtain ⟨z3, g3⟩ := hg 3 _ rfl c3 rfl
      obtain ⟨s3, e3, _, f3⟩ := DataW.trod_int Tryd.underlying3 g3
      obtain rfl : c3 = .int .i64 s3 := by simpa using e3
      exact ⟨⟨⟨s0, s1, s2, s3⟩, f0⟩, rfl⟩) (by decide)
  obtain ⟨l, rfl⟩ := choose_map (f := fun d : { d : Cl // d.fit } => d.1.row) rows hg
  refine ⟨l.map Subtype.val, by simpa [List.map_map, Function.comp_def] using hs, fun h hh => ?_⟩
  obtain ⟨d, _, rfl⟩ := List.mem_map.1 hh
  exact d.2
/-- Of a voyage: its texts are no longer than a text can be. -/
def Vm.fit (x : Vm) : Prop := x.ship.size ≤ 9223372036854775807 ∧ ∀ c ∈ x.calls, c.fit
theorem open_voyage {H : Type} {enc : TypeId × Value → H} {W : World} {base : Nat} {v : Value} {d : DataW H} {p : List MemPlace} (hv : Value.okWide Tryd.prog W .any base 32 v)
    (h : DataW.Trod enc Tryd.prog W 0 (fun _ => true) true 32 v d p) : ∃ t : Vm, v = .agg #[.string t.ship, t.val] ∧ Sl W 4 t.val (t.calls.map Cl.row) ∧ t.fit := by
  obtain ⟨cs, rfl, hsz⟩ := okWide_struct Tryd.underlying32 hv
  obtain ⟨fuel, hf⟩ := h
  obtain ⟨hl, m, hg⟩ := row_fields Tryd.underlying32 (by kernel_rfl) (by kernel_rfl) hf
  obtain ⟨cs⟩ := cs
  simp only [Value.cells] at hl hg
  match cs, hl with
  | [c0, c1], _ =>
    obtain ⟨z0, g0⟩ := hg 0 _ rfl c0 rfl
    obtain ⟨z1, g1⟩ := hg 1 _ rfl c1 rfl
    obtain ⟨s0, e0, _, f0⟩ := DataW.trod_string Tryd.underlying9 g0
    obtain rfl : c0 = .string s0 := by simpa using e0
    obtain ⟨l, h1, h2⟩ := calls_of g1
    exact ⟨⟨s0, c1, l⟩, rfl, h1, f0, h2⟩
theorem open_voyages {H : Type} {enc : TypeId × Value → H} {W : World} {base : Nat} {v : Value} {d : DataW H} {p : List MemPlace} (hv : Value.okWide Tryd.prog W .any base 22 v)
    (h : DataW.Trod enc Tryd.prog W 0 (fun _ => true) true 22 v d p) : ∃ l : List Vm, VsAt W v l ∧ ∀ x ∈ l, x.fit := by
  obtain ⟨a, len, cap, rfl⟩ := okWide_slice Tryd.underlying22 hv
  obtain ⟨fuel, hf⟩ := h
  obtain ⟨rows, hs, _, hg⟩ := open_sl (sz := 2) (Good := fun cs => ∃ d : { d : Vm // Sl W 4 d.val (d.calls.map Cl.row) ∧ d.fit }, cs = d.1.row) Tryd.underlying22 (by kernel_rfl) rfl hf (fun n cs y hy => by
    obtain ⟨hl, m, hg⟩ := row_fields Tryd.underlying32 (by kernel_rfl) (by kernel_rfl) hy
    match cs, hl with
    | [c0, c1], _ =>
      obtain ⟨z0, g0⟩ := hg 0 _ rfl c0 rfl
      obtain ⟨z1, g1⟩ := hg 1 _ rfl c1 rfl
      obtain ⟨s0, e0, _, f0⟩ := DataW.trod_string Tryd.underlying9 g0
      obtain rfl : c0 = .string s0 := by simpa using e0
      obtain ⟨l, h1, h2⟩ := calls_of g1
      exact ⟨⟨⟨s0, c1, l⟩, h1, f0, h2⟩, rfl⟩) (by decide)
  obtain ⟨l, rfl⟩ := choose_map (f := fun d : { d : Vm // Sl W 4 d.val (d.calls.map Cl.row) ∧ d.fit } => d.1.row) rows hg
  refine ⟨l.map Subtype.val, ⟨by simpa [List.map_map, Function.comp_def] using hs, fun x hx => ?_⟩, fun x hx => ?_⟩
  · obtain ⟨d, _, rfl⟩ := List.mem_map.1 hx
    exact d.2.1
  · obtain ⟨d, _, rfl⟩ := List.mem_map.1 hx
    exact d.2.2
end Go.Proofs.YtbmjficiceiekaaDoor.Sc
