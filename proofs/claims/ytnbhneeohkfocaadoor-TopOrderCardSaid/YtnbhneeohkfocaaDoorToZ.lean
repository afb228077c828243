/- TopOrder: consignments add up to the order, and what the way costs to what it costs landed. -/
import Derived.Test.YtnbhneeohkfocaaDoorTo22
import Derived.Test.YtnbhneeohkfocaaDoorTie
import Derived.Test.YtnbhneeohkfocaaDoorCards
import Derived.LaidMore
import Derived.Stop.Joined
import Derived.Stop.LaidErr
import Derived.SevenTiedAt
namespace Go.Proofs.YtnbhneeohkfocaaDoor.Sc
open Go
structure Cst.fit (x : Cst) : Prop where
  nm : x.nm.size ≤ maxLen
end Go.Proofs.YtnbhneeohkfocaaDoor.Sc
namespace Go.Proofs.YtnbhneeohkfocaaDoor.topOrder
open Go.ChangeShapes Go.WideShapes Go.ChangeAt Go.RowKit Go Sc
set_option maxRecDepth 100000

/-- The table of terms. -/
def tmN (t : Nat) : List UInt8 := ([[97, 116, 45, 119, 111, 114, 107, 115], [116, 111, 45, 99, 97, 114, 114, 105, 101, 114], [111, 110, 45, 98, 111, 97, 114, 100], [102, 114, 101, 105, 103, 104, 116, 45, 112, 97, 105, 100], [105, 110, 115, 117, 114, 101, 100], [108, 97, 110, 100, 101, 100], [99, 108, 101, 97, 114, 101, 100], [97, 116, 45, 100, 111, 111, 114]] : List (List UInt8)).getD t []
def nmT (t : Nat) : ByteArray := ⟨⟨tmN t⟩⟩
def coT (t : Nat) : Int := ([1, 2, 3, 5, 5, 5, 6, 7] : List Int).getD t 0
def riT (t : Nat) : Int := ([1, 2, 3, 2, 3, 5, 6, 7] : List Int).getD t 0
def paT (t : Nat) : List (DataW Unit) := (([[0, 1], [0, 1], [0, 1, 2], [0, 1, 2], [0, 1, 2, 3], [0, 1, 2], [0, 1, 2, 4], [0, 1, 2, 4]] : List (List Int)).getD t []).map fun x => .lit (.int .i64 x)
def tmD (t : Nat) : DataW Unit := .agg [.lit (.string (tmN t)), .lit (.int .i64 (coT t)), .lit (.int .i64 (riT t)), .slice (paT t) []]
def TmL (w : World) : Prop := TmW w nmT coT riT
theorem nmT_some : ∀ t, t < 8 → (nmT t).toList.isEmpty = false := by
  intro t ht
  rw [ByteArray.toList_eq]
  match t, ht with
  | 0, _ => rfl
  | 1, _ => rfl
  | 2, _ => rfl
  | 3, _ => rfl
  | 4, _ => rfl
  | 5, _ => rfl
  | 6, _ => rfl
  | 7, _ => rfl
  | n + 8, h => exact absurd h (by omega)
theorem datum : (Rows.laid_supercargo_term_terms : DataW Unit) = .agg ((List.range 8).map tmD) := rfl
def laidA := Rows.topOrderRow.laid
theorem tTerms : (Tryd.prog.globals[2]?).map (·.type) = some 129 := by kernel_rfl
theorem tm_of_laid {W : World} (h : laidMetH Tryd.prog laidA W) : TmL W := by
  rw [MakeChecks.laidMetH_plain _ _ _ (by kernel_rfl)] at h
  obtain ⟨ps, ⟨g0, t0, cs0, f0, p0, q0, hg0, ht0, hv0, hd0, _⟩, _⟩ := h
  obtain rfl : g0 = 2 := Option.some.inj (hg0.symm.trans (by kernel_rfl))
  obtain rfl := Option.some.inj (tTerms.symm.trans ht0)
  obtain ⟨xs, m1, rfl, hx1, hlen, hn3, hel⟩ := DataW.trod_array Tryd.underlying129 hd0
  have c3 : Tryd.prog.cellsOf 128 = 4 := by kernel_rfl
  have hx2 : xs.map (·.1) = (List.range 8).map tmD := by
    rw [datum] at hx1
    simp only [Prod.mk.injEq, DataW.agg.injEq] at hx1
    exact hx1.1.symm
  have key : ∀ j, j < 8 → W.cell? ⟨2, j * 4, none⟩ = some (.string (nmT j)) ∧ W.cell? ⟨2, j * 4 + 1, none⟩ = some (.int .i64 (coT j)) ∧ W.cell? ⟨2, j * 4 + 2, none⟩ = some (.int .i64 (riT j)) := by
    intro j hj
    have h1 := hel j hj
    rw [c3] at h1
    have hxj : j < xs.length := by omega
    rw [List.getElem?_eq_getElem hxj] at h1
    have hxd : xs[j].1 = tmD j := by
      have h2 : (xs.map (·.1))[j]? = some (tmD j) := by rw [hx2, List.getElem?_map, List.getElem?_range hj]; rfl
      rw [List.getElem?_map, List.getElem?_eq_getElem hxj, Option.map_some] at h2
      exact Option.some.inj h2
    obtain ⟨ys, n, _, he, hl, hyl, hf⟩ := DataW.trod_struct Tryd.underlying128 h1
    have hyd : ys.map (·.1) = [.lit (.string (tmN j)), .lit (.int .i64 (coT j)), .lit (.int .i64 (riT j)), .slice (paT j) []] := by
      rw [he] at hxd
      simp only [tmD, DataW.agg.injEq] at hxd
      exact hxd
    have hy4 : ys.length = 4 := by have := congrArg List.length hyd; simpa using this
    have hcell : ∀ i (u : Value), i < 4 → (((cs0.toList.drop (j * 4)).take 4).drop i).take 1 = [u] → W.cell? ⟨2, j * 4 + i, none⟩ = some u := by
      intro i u hi hu
      have h3 := World.var?_cell hg0 hv0 (j * 4 + i)
      rw [h3, ← Array.getElem?_toList]
      have h4 : ((((cs0.toList.drop (j * 4)).take 4).drop i).take 1)[0]? = some u := by rw [hu]; rfl
      rw [List.getElem?_take, if_pos (by decide), List.getElem?_drop, Nat.add_zero, List.getElem?_take, if_pos hi, List.getElem?_drop] at h4
      exact h4
    have e0 : ys[0]'(by omega) = ys[0]'(by omega) := rfl
    have hd : ∀ i (hi : i < 4), (ys[i]'(by omega)).1 = ([.lit (.string (tmN j)), .lit (.int .i64 (coT j)), .lit (.int .i64 (riT j)), .slice (paT j) []] : List (DataW Unit))[i]'(by simpa using hi) := by
      intro i hi
      have h5 : (ys.map (·.1))[i]? = ([.lit (.string (tmN j)), .lit (.int .i64 (coT j)), .lit (.int .i64 (riT j)), .slice (paT j) []] : List (DataW Unit))[i]? := by rw [hyd]
      rw [List.getElem?_map, List.getElem?_eq_getElem (show i < ys.length by omega), List.getElem?_eq_getElem (by simpa using hi), Option.map_some] at h5
      exact Option.some.inj h5
    have g0 := hf 0 _ rfl
    have g1 := hf 1 _ rfl
    have g2 := hf 2 _ rfl
    rw [List.getElem?_eq_getElem (show 0 < ys.length by omega)] at g0
    rw [List.getElem?_eq_getElem (show 1 < ys.length by omega)] at g1
    rw [List.getElem?_eq_getElem (show 2 < ys.length by omega)] at g2
    have d0 := hd 0 (by decide)
    have d1 := hd 1 (by decide)
    have d2 := hd 2 (by decide)
    simp only [List.getElem_cons_zero, List.getElem_cons_succ] at d0 d1 d2
    obtain ⟨s, a1, a2, _⟩ := DataW.trod_string Tryd.underlying9 g0
    obtain ⟨x, b1, b2, _⟩ := DataW.trod_int Tryd.underlying3 g1
    obtain ⟨y, k1, k2, _⟩ := DataW.trod_int Tryd.underlying3 g2
    rw [a2] at d0
    rw [b2] at d1
    rw [k2] at d2
    simp only [DataW.lit.injEq, Lit.string.injEq, Lit.int.injEq, true_and] at d0 d1 d2
    have hs : s = nmT j := by
      obtain ⟨⟨l⟩⟩ := s
      simp only at d0
      rw [nmT, ← d0]
    subst d1 d2
    rw [hs] at a1
    exact ⟨hcell 0 _ (by decide) a1, hcell 1 _ (by decide) b1, hcell 2 _ (by decide) k1⟩
  have k0 := (key 0 (by decide)).1
  exact ⟨World.block_lt_of_cell? W _ k0, fun t ht => (key t ht).1, fun t ht => (key t ht).2.1, fun t ht => (key t ht).2.2⟩
/-- The door's own heap meets the condition. -/
theorem door_met (os : Os) (args : Array Value) : laidMetH Tryd.prog laidA ((World.doorLaid Tryd.prog 400 os).forCall (fun _ _ => 0) ⟨#[], args, []⟩).memory :=
  laidMetH_of_parts3 (fuel := 8) (laidMet_of_run' 8 (by kernel_rfl) (by kernel_rfl)) (by kernel_rfl) (by kernel_rfl)
/-- The lifted form of a law. -/
theorem law_liftedD (os : Os) (started : os.Started) {H : Type} {enc : TypeId × Value → H} {f : FuncId} {fn : Func} {s : ChangeSpec}
    (noInit : Tryd.prog.inits.idxOf? f = none) (hfn : Tryd.prog.funcs[f]? = some fn)
    (witness : ∃ (w : World) (tape : Tape) (i : Input), w.os = os ∧ (w.forCall tape i).Shaped Tryd.checked.prog ∧ i.vars = [] ∧ Input.okWide Tryd.checked.prog (w.forCall tape i) .any w.heap.size f i ∧
      ((s.pre enc Tryd.checked.prog fn [] false (w.forCall tape i).memory i.args ∧ laidMetH Tryd.prog laidA (w.forCall tape i).memory) ∧ sizedMet enc Tryd.checked.prog fn (OpenSpec.ofChange s) false (w.forCall tape i).memory i.args) ∧ ({} : Assume).holds Tryd.checked.prog (lone (Frame.enter Tryd.checked.prog f i.args .normal) [] (w.forCall tape i)))
    (hgood : fn.params.toList.all (fun t => Tryd.prog.readableRec t && decide (t < Tryd.prog.types.size)) = true)
    (hres : fn.resultTypes = #[4]) (hvars : s.vars = [])
    (hspec : ∀ (vs : List Value) (ds : List (DataW H)) (W : World) (p : List MemPlace), DataW.TrodAll enc Tryd.prog W 0 (fun _ => true) true fn.params.toList vs ds p → s.fn H (ds ++ []) = { results := [.lit (.bool true)], args := ds })
    (walk : ∀ (W : World) (base : Nat) (args : Array Value) (ds : List (DataW H)) (p : List MemPlace), TmL W → (∀ (j : Nat) t v, fn.params[j]? = some t → args[j]? = some v → Value.okWide Tryd.prog W .any base t v) →
      DataW.TrodAll enc Tryd.prog W 0 (fun _ => true) true fn.params.toList args.toList ds p → Calls Tryd.prog f args W (RetB W true)) :
    ReturnsInHanded {} Tryd.checked os f .any (fun w args => (s.pre enc Tryd.prog fn [] false w args ∧ laidMetH Tryd.prog laidA w) ∧ sizedMet enc Tryd.prog fn (OpenSpec.ofChange s) false w args) (s.post enc Tryd.prog fn false true false false) := by
  refine returnsInHanded_of_change_and (C := Tryd.checked) (X := fun w _ => laidMetH Tryd.prog laidA w) (fun _ _ _ hh h => h.of_heap hh) own started noInit hfn witness ?_
  intro W base args ds gs before hval hW _ _ hL _
  have hW' := hW
  obtain ⟨p, q, hA, hV, hbef, _, _⟩ := hW
  rw [hvars] at hV
  obtain ⟨rfl, rfl⟩ := trodVars_none hV
  rw [List.append_nil] at hbef
  refine (walk W base args ds p (tm_of_laid hL) hval hA).mono fun e W' h => ?_
  exact ⟨_, h.1, law_post hW' hA hbef hgood hres hvars (hspec _ _ _ _ hA) h.2⟩
theorem slice_one {H : Type} {enc : TypeId × Value → H} {P : Program} {w : World} {base : Nat} {spare : Nat → Bool} {held : Bool} {t e : TypeId} {fuel : Nat} {c : Value} {x : DataW H × List MemPlace}
    (ht : P.underlying t = some (.slice e)) (h : DataW.trod enc P w base spare held fuel t [c] = some x) : c.cells.toList = [c] := by
  rcases Go.Deep.open_slice ht h with ⟨h1, _⟩ | ⟨a, len, cap, m, n, D, Pl, h1, _⟩
  · obtain rfl : c = .slice none 0 0 := by simpa using h1
    rfl
  · obtain rfl : c = .slice (some a) len cap := by simpa using h1
    rfl
theorem lines_of {H : Type} {enc : TypeId × Value → H} {W : World} {base : Nat} {spare : Nat → Bool} {held : Bool} {fuel : Nat} {c : Value} {x : DataW H × List MemPlace}
    (h : DataW.trod enc Tryd.prog W base spare held fuel 22 [c] = some x) : ∃ l : List Ln, Sl W 3 c (l.map Ln.row) := by
  have h1 := slice_one Tryd.underlying22 h
  rw [← h1] at h
  obtain ⟨rows, hs, _, hg⟩ := open_sl (sz := 3) (Good := fun cs => ∃ d : { d : Ln // True }, cs = d.1.row) Tryd.underlying22 (by kernel_rfl) h1 h (fun n cs y hy => by
    obtain ⟨hl, m, hg⟩ := row_fields Tryd.underlying34 (by kernel_rfl) (by kernel_rfl) hy
    match cs, hl with
    | [c0, c1, c2], _ =>
      obtain ⟨z0, g0⟩ := hg 0 _ rfl c0 rfl
      obtain ⟨s0, e0, _, f0⟩ := DataW.trod_string Tryd.underlying9 g0
      obtain rfl : c0 = .string s0 := by simpa using e0
      obtain ⟨z1, g1⟩ := hg 1 _ rfl c1 rfl
      obtain ⟨s1, e1, _, f1⟩ := DataW.trod_int Tryd.underlying3 g1
      obtain rfl : c1 = .int .i64 s1 := by simpa using e1
      obtain ⟨z2, g2⟩ := hg 2 _ rfl c2 rfl
      obtain ⟨s2, e2, _, f2⟩ := DataW.trod_int Tryd.underlying2 g2
      obtain rfl : c2 = .int .i64 s2 := by simpa using e2
      exact ⟨⟨⟨s0, s1, s2⟩, trivial⟩, rfl⟩) (by decide)
  obtain ⟨l, rfl⟩ := choose_map (f := fun d : { d : Ln // True } => d.1.row) rows hg
  exact ⟨l.map Subtype.val, by simpa [List.map_map, Function.comp_def] using hs⟩
/-- An argument that is an order. -/
theorem open_order {H : Type} {enc : TypeId × Value → H} {W : World} {base : Nat} {v : Value} {d : DataW H} {p : List MemPlace} (hv : Value.okWide Tryd.prog W .any base 24 v)
    (h : DataW.Trod enc Tryd.prog W 0 (fun _ => true) true 24 v d p) : ∃ (s0 s1 s2 s3 s4 s5 : ByteArray) (tm : Int) (L : List Ln) (u : Value), v = .agg #[.string s0, .string s1, .string s2, .string s3, .string s4, .string s5, .int .i64 tm, u] ∧ Sl W 3 u (L.map Ln.row) := by
  obtain ⟨cs, rfl, hsz⟩ := okWide_struct Tryd.underlying24 hv
  obtain ⟨fuel, hf⟩ := h
  obtain ⟨hl, m, hg⟩ := row_fields Tryd.underlying24 (by kernel_rfl) (by kernel_rfl) hf
  obtain ⟨cs⟩ := cs
  simp only [Value.cells] at hl hg
  match cs, hl with
  | [c0, c1, c2, c3, c4, c5, c6, c7], _ =>
    obtain ⟨z0, g0⟩ := hg 0 _ rfl c0 rfl
    obtain ⟨s0, e0, _, f0⟩ := DataW.trod_string Tryd.underlying9 g0
    obtain rfl : c0 = .string s0 := by simpa using e0
    obtain ⟨z1, g1⟩ := hg 1 _ rfl c1 rfl
    obtain ⟨s1, e1, _, f1⟩ := DataW.trod_string Tryd.underlying9 g1
    obtain rfl : c1 = .string s1 := by simpa using e1
    obtain ⟨z2, g2⟩ := hg 2 _ rfl c2 rfl
    obtain ⟨s2, e2, _, f2⟩ := DataW.trod_string Tryd.underlying9 g2
    obtain rfl : c2 = .string s2 := by simpa using e2
    obtain ⟨z3, g3⟩ := hg 3 _ rfl c3 rfl
    obtain ⟨s3, e3, _, f3⟩ := DataW.trod_string Tryd.underlying9 g3
    obtain rfl : c3 = .string s3 := by simpa using e3
    obtain ⟨z4, g4⟩ := hg 4 _ rfl c4 rfl
    obtain ⟨s4, e4, _, f4⟩ := DataW.trod_string Tryd.underlying9 g4
    obtain rfl : c4 = .string s4 := by simpa using e4
    obtain ⟨z5, g5⟩ := hg 5 _ rfl c5 rfl
    obtain ⟨s5, e5, _, f5⟩ := DataW.trod_string Tryd.underlying9 g5
    obtain rfl : c5 = .string s5 := by simpa using e5
    obtain ⟨z6, g6⟩ := hg 6 _ rfl c6 rfl
    obtain ⟨s6, e6, _, f6⟩ := DataW.trod_int Tryd.underlying3 g6
    obtain rfl : c6 = .int .i64 s6 := by simpa using e6
    obtain ⟨z7, g7⟩ := hg 7 _ rfl c7 rfl
    obtain ⟨l, h1⟩ := lines_of g7
    exact ⟨s0, s1, s2, s3, s4, s5, s6, l, c7, rfl, h1⟩
theorem wf_bdO {k : IntKind} {x : Int} (h : (Lit.int k x).wf = true) : k.min ≤ x ∧ x ≤ k.max := by simpa [Lit.wf, IntKind.wrap] using h
/-- An argument that is a slice of such numbers. -/
theorem open_u8s {H : Type} {enc : TypeId × Value → H} {W : World} {base : Nat} {v : Value} {d : DataW H} {p : List MemPlace} (hv : Value.okWide Tryd.prog W .any base 25 v)
    (h : DataW.Trod enc Tryd.prog W 0 (fun _ => true) true 25 v d p) : ∃ l : List Int, Sl W 1 v (l.map u8Row) ∧ ∀ h ∈ l, (Lit.int .u8 h).wf = true := by
  obtain ⟨a, len, cap, rfl⟩ := okWide_slice Tryd.underlying25 hv
  obtain ⟨fuel, hf⟩ := h
  obtain ⟨rows, hs, _, hg⟩ := open_sl (sz := 1) (Good := fun cs => ∃ d : { d : Int // (Lit.int .u8 d).wf = true }, cs = u8Row d.1) Tryd.underlying25 (by kernel_rfl) rfl hf (fun n cs y hy => by
    obtain ⟨s, e, _, f⟩ := DataW.trod_int Tryd.underlying5 hy
    exact ⟨⟨s, f⟩, e⟩) (by decide)
  obtain ⟨l, rfl⟩ := choose_map (f := fun d : { d : Int // (Lit.int .u8 d).wf = true } => u8Row d.1) rows hg
  refine ⟨l.map Subtype.val, by simpa [List.map_map, Function.comp_def] using hs, fun h hh => ?_⟩
  obtain ⟨d, _, rfl⟩ := List.mem_map.1 hh
  exact d.2
/-- An argument that is a slice of these. -/
theorem open_costs {H : Type} {enc : TypeId × Value → H} {W : World} {base : Nat} {v : Value} {d : DataW H} {p : List MemPlace} (hv : Value.okWide Tryd.prog W .any base 26 v)
    (h : DataW.Trod enc Tryd.prog W 0 (fun _ => true) true 26 v d p) : ∃ l : List Cst, Sl W 3 v (l.map Cst.row) ∧ ∀ h ∈ l, h.fit := by
  obtain ⟨a, len, cap, rfl⟩ := okWide_slice Tryd.underlying26 hv
  obtain ⟨fuel, hf⟩ := h
  obtain ⟨rows, hs, _, hg⟩ := open_sl (sz := 3) (Good := fun cs => ∃ d : { d : Cst // d.fit }, cs = d.1.row) Tryd.underlying26 (by kernel_rfl) rfl hf (fun n cs y hy => by
    obtain ⟨hl, m, hg⟩ := row_fields Tryd.underlying119 (by kernel_rfl) (by kernel_rfl) hy
    match cs, hl with
    | [c0, c1, c2], _ =>
      obtain ⟨z0, g0⟩ := hg 0 _ rfl c0 rfl
      obtain ⟨s0, e0, _, f0⟩ := DataW.trod_string Tryd.underlying9 g0
      obtain rfl : c0 = .string s0 := by simpa using e0
      obtain ⟨z1, g1⟩ := hg 1 _ rfl c1 rfl
      obtain ⟨s1, e1, _, f1⟩ := DataW.trod_int Tryd.underlying3 g1
      obtain rfl : c1 = .int .i64 s1 := by simpa using e1
      obtain ⟨z2, g2⟩ := hg 2 _ rfl c2 rfl
      obtain ⟨s2, e2, _, f2⟩ := DataW.trod_int Tryd.underlying2 g2
      obtain rfl : c2 = .int .i64 s2 := by simpa using e2
      exact ⟨⟨⟨s0, s1, s2⟩, ⟨f0⟩⟩, rfl⟩) (by decide)
  obtain ⟨l, rfl⟩ := choose_map (f := fun d : { d : Cst // d.fit } => d.1.row) rows hg
  refine ⟨l.map Subtype.val, by simpa [List.map_map, Function.comp_def] using hs, fun h hh => ?_⟩
  obtain ⟨d, _, rfl⟩ := List.mem_map.1 hh
  exact d.2
theorem walk (w : World) (ht : TmL w) (s0 s1 s2 s3 s4 s5 : ByteArray) (tm : Int) (L : List Ln) (v : Value) (hs : Sl w 3 v (L.map Ln.row)) (cs : List Int) (vc : Value) (hc : Sl w 1 vc (cs.map u8Row)) (hcf : ∀ h ∈ cs, (Lit.int .u8 h).wf = true) (lk : List Cst) (vk : Value) (hk : Sl w 3 vk (lk.map Cst.row)) (_ : ∀ x ∈ lk, Cst.fit x) :
    Calls Tryd.prog 3 #[.agg #[.string s0, .string s1, .string s2, .string s3, .string s4, .string s5, .int .i64 tm, v], vc, vk] w (RetB w true) := by
  have e1 : IntKind.u8.min = 0 := rfl
  have e2 : IntKind.u8.max = 255 := rfl
  exact topOrder_walk nmT_some s0 s1 s2 s3 s4 s5 tm L v cs vc lk vk w ht hs hc (fun x hx => by have := wf_bdO (hcf x hx); omega) hk

theorem lifted (os : Os) (started : os.Started) (H : Type) (enc : TypeId × Value → H) :
    ReturnsInHanded {} Tryd.checked os 3 .any (fun w args => (Rows.topOrderSpec.pre enc Tryd.prog Tryd.f3 [] false w args ∧ laidMetH Tryd.prog laidA w) ∧ sizedMet enc Tryd.prog Tryd.f3 (OpenSpec.ofChange Rows.topOrderSpec) false w args) (Rows.topOrderSpec.post enc Tryd.prog Tryd.f3 false true false false) := by
  refine law_liftedD os started (by kernel_rfl) Tryd.func3
    (ChangeSpec.witness_shaped (enc := enc) (C := Tryd.checked) (os := os) (X := fun w _ => laidMetH Tryd.prog laidA w) false (World.doorLaid Tryd.prog 400 os) #[.agg #[.string ⟨#[]⟩, .string ⟨#[]⟩, .string ⟨#[]⟩, .string ⟨#[]⟩, .string ⟨#[]⟩, .string ⟨#[]⟩, .int .i64 0, .slice none 0 0], .slice none 0 0, .slice none 0 0] 8 rfl (World.shaped_of_RefB (by kernel_rfl) (by kernel_rfl)) (by kernel_rfl) (by kernel_rfl) (by kernel_rfl) (door_met os _))
    (by kernel_rfl) rfl rfl ?_ ?_
  · intro vs ds W p hA
    rw [Tryd.params3] at hA
    obtain ⟨v0, vs0, d0, ds0, p0, q0, rfl, rfl, rfl, h0, r0⟩ := trodAll_cons hA
    obtain ⟨v1, vs1, d1, ds1, p1, q1, rfl, rfl, rfl, h1, r1⟩ := trodAll_cons r0
    obtain ⟨v2, vs2, d2, ds2, p2, q2, rfl, rfl, rfl, h2, r2⟩ := trodAll_cons r1
    obtain ⟨rfl, rfl, rfl⟩ := trodAll_nil r2
    rfl
  · intro W base args ds p hap hval hA
    rw [Tryd.params3] at hA hval
    obtain ⟨v0, vs0, d0, ds0, p0, q0, hargs, rfl, rfl, h0, r0⟩ := trodAll_cons hA
    obtain ⟨v1, vs1, d1, ds1, p1, q1, rfl, rfl, rfl, h1, r1⟩ := trodAll_cons r0
    obtain ⟨v2, vs2, d2, ds2, p2, q2, rfl, rfl, rfl, h2, r2⟩ := trodAll_cons r1
    obtain ⟨rfl, rfl, rfl⟩ := trodAll_nil r2
    obtain rfl : args = #[v0, v1, v2] := by cases args; simp_all
    obtain ⟨sa0, sb0, sc0, sd0, se0, sf0, tm0, L0, u0, rfl, hs0⟩ := open_order (hval 0 24 v0 rfl rfl) h0
    obtain ⟨l1, hs1, hf1⟩ := open_u8s (hval 1 25 v1 rfl rfl) h1
    obtain ⟨l2, hs2, hf2⟩ := open_costs (hval 2 26 v2 rfl rfl) h2
    exact walk W hap sa0 sb0 sc0 sd0 se0 sf0 tm0 L0 u0 hs0 l1 v1 hs1 hf1 l2 v2 hs2 hf2

theorem over : Rows.topOrderRow.holds Tryd.pinned (OpenSpec.ofChange Rows.topOrderSpec) :=
  OpenClaim.holds_of_wide 3 Tryd.f3 rfl rfl rfl rfl rfl rfl rfl ⟨rfl, rfl, rfl, rfl, rfl⟩ rfl rfl rfl rfl rfl (by kernel_rfl) Tryd.func3 (by kernel_rfl)
    (of_decide_eq_true (by kernel_rfl)) (by unfold Func.isWrapper; rw [if_neg (by decide +kernel)]; exact ⟨rfl, rfl⟩)
    (fun os started H enc _ => lifted os started H enc)

/-- The statement. -/
theorem proved : Rows.TopOrderCardSaid :=
  Claim7.holds_tied_plain_at .later [] [.widerDeep] true _ false
    over (fun _ h => by cases h) (by kernel_rfl) (fun _ h => by cases h) topOrder_row_tie rfl ⟨rfl, rfl⟩ (by kernel_rfl) rfl
    (fun f fn hf hfn => by
      obtain rfl : f = 3 := Option.some.inj (hf.symm.trans (by kernel_rfl))
      obtain rfl : fn = Tryd.f3 := (Option.some.inj (Tryd.func3.symm.trans hfn)).symm
      exact ⟨by kernel_rfl, fun j t ht => by
        have hall : (Tryd.f3.params.toList.all fun u => !Tryd.prog.wantsStandIn u) = true := by kernel_rfl
        have hm : t ∈ Tryd.f3.params.toList := by simpa using Array.mem_of_getElem? ht
        exact (show Tryd.prog.wantsStandIn t = false by simpa using List.all_eq_true.1 hall t hm)⟩)
    (by kernel_rfl)
#print axioms proved
end Go.Proofs.YtnbhneeohkfocaaDoor.topOrder
