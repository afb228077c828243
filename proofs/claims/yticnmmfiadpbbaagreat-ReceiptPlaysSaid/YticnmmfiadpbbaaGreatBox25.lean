/- Houses and their rows stand though a house's box is written: no cell that they need lies there. -/
import Derived.Test.YticnmmfiadpbbaaGreatPartH25
import Derived.Test.YticnmmfiadpbbaaGreatRcB25
import Derived.Test.YticnmmfiadpbbaaGreatLaw
import Derived.Test.YticnmmfiadpbbaaGreatHs25
import Derived.Test.YticnmmfiadpbbaaGreatStg
import Derived.Laws.ResultCell
namespace Go.Proofs.YticnmmfiadpbbaaGreat.Sc
open Go Go.RowKit Go.ChangeShapes Go.WideShapes Go.ChangeAt Go.Deep
set_option maxRecDepth 100000

/-- A call of a house in memory. -/
structure Opv where
  kind : Int
  num : ByteArray
  by' : ByteArray
  to' : ByteArray
  day : Int
  lots : List Lt
  nums : List ByteArray
  parts : List Np
  lv : Value
  nv : Value
  pv : Value
def Opv.rop (o : Opv) : Rop := ⟨o.kind, o.num, o.by', o.to', o.day, o.lots, o.nums, npSnd o.parts⟩
def Opv.cells (o : Opv) : Array Value := #[.int .i64 o.kind, .string o.num, .string o.by', .string o.to', .int .i64 o.day, o.lv, o.nv, o.pv]
def Opv.row (o : Opv) : List Value := o.cells.toList
def Opv.at (w : World) (o : Opv) : Prop := Sl w 2 o.lv (o.lots.map Lt.row) ∧ Sl w 1 o.nv (o.nums.map stRow) ∧ NpAt w o.pv o.parts
theorem Opv.at.below {w w' : World} {o : Opv} (h : o.at w) (hb : Below w.heap.size w w') : o.at w' := ⟨h.1.below hb (Nat.le_refl _), h.2.1.below hb (Nat.le_refl _), h.2.2.below hb⟩
structure Opv.fit (o : Opv) : Prop where
  num : o.num.size ≤ 9223372036854775807
  by' : o.by'.size ≤ 9223372036854775807
  to' : o.to'.size ≤ 9223372036854775807
  lots : ∀ x ∈ o.lots, x.fit
  nums : ∀ s ∈ o.nums, s.size ≤ 9223372036854775807
  parts : ∀ q ∈ o.parts, ∀ x ∈ q.2, x.fit
def OpsAt (w : World) (v : Value) (l : List Opv) : Prop := Sl w 8 v (l.map Opv.row) ∧ ∀ o ∈ l, o.at w
theorem OpsAt.below {w w' : World} {v : Value} {l : List Opv} (h : OpsAt w v l) (hb : Below w.heap.size w w') : OpsAt w' v l := ⟨h.1.below hb (Nat.le_refl _), fun o ho => (h.2 o ho).below hb⟩
theorem slice_one {H : Type} {enc : TypeId × Value → H} {P : Program} {w : World} {base : Nat} {spare : Nat → Bool} {held : Bool} {t e : TypeId} {fuel : Nat} {cs : List Value} {x : DataW H × List MemPlace}
    (ht : P.underlying t = some (.slice e)) (h : DataW.trod enc P w base spare held fuel t cs = some x) : ∃ c : Value, cs = [c] ∧ c.cells.toList = [c] := by
  rcases open_slice ht h with ⟨h1, _⟩ | ⟨a, len, cap, m, n, D, Pl, h1, _⟩
  · exact ⟨_, h1, rfl⟩
  · exact ⟨_, h1, rfl⟩
theorem lots_of {H : Type} {enc : TypeId × Value → H} {W : World} {base : Nat} {spare : Nat → Bool} {held : Bool} {fuel : Nat} {cs : List Value} {x : DataW H × List MemPlace}
    (h : DataW.trod enc Tryz.prog W base spare held fuel 32 cs = some x) : ∃ (c : Value) (l : List Lt), cs = [c] ∧ Sl W 2 c (l.map Lt.row) ∧ ∀ h ∈ l, h.fit := by
  obtain ⟨c, rfl, h1⟩ := slice_one Tryz.underlying32 h
  rw [← h1] at h
  obtain ⟨rows, hs, _, hg⟩ := open_sl (sz := 2) (Good := fun cs => ∃ d : { d : Lt // d.fit }, cs = d.1.row) Tryz.underlying32 (by kernel_rfl) h1 h (fun n cs y hy => by
    obtain ⟨hl, m, hg⟩ := row_fields Tryz.underlying47 (by kernel_rfl) (by kernel_rfl) hy
    match cs, hl with
    | [c0, c1], _ =>
      obtain ⟨z0, g0⟩ := hg 0 _ rfl c0 rfl
      obtain ⟨s0, e0, _, f0⟩ := DataW.trod_string Tryz.underlying9 g0
      obtain rfl : c0 = .string s0 := by simpa using e0
      obtain ⟨z1, g1⟩ := hg 1 _ rfl c1 rfl
      obtain ⟨s1, e1, _, f1⟩ := DataW.trod_int Tryz.underlying3 g1
      obtain rfl : c1 = .int .i64 s1 := by simpa using e1
      exact ⟨⟨⟨s0, s1⟩, ⟨f0⟩⟩, rfl⟩) (by decide)
  obtain ⟨l, rfl⟩ := choose_map (f := fun d : { d : Lt // d.fit } => d.1.row) rows hg
  refine ⟨c, l.map Subtype.val, rfl, by simpa [List.map_map, Function.comp_def] using hs, fun h hh => ?_⟩
  obtain ⟨d, _, rfl⟩ := List.mem_map.1 hh
  exact d.2
theorem texts_of {H : Type} {enc : TypeId × Value → H} {W : World} {base : Nat} {spare : Nat → Bool} {held : Bool} {fuel : Nat} {cs : List Value} {x : DataW H × List MemPlace}
    (h : DataW.trod enc Tryz.prog W base spare held fuel 27 cs = some x) : ∃ (c : Value) (l : List ByteArray), cs = [c] ∧ Sl W 1 c (l.map stRow) ∧ ∀ s ∈ l, s.size ≤ 9223372036854775807 := by
  obtain ⟨c, rfl, h1⟩ := slice_one Tryz.underlying27 h
  rw [← h1] at h
  obtain ⟨rows, hs, _, hg⟩ := open_sl (sz := 1) (Good := fun cs => ∃ d : { d : ByteArray // d.size ≤ 9223372036854775807 }, cs = stRow d.1) Tryz.underlying27 (by kernel_rfl) h1 h (fun n cs y hy => by
    obtain ⟨s0, e0, _, f0⟩ := DataW.trod_string Tryz.underlying9 hy
    exact ⟨⟨s0, f0⟩, e0⟩) (by decide)
  obtain ⟨l, rfl⟩ := choose_map (f := fun d : { d : ByteArray // d.size ≤ 9223372036854775807 } => stRow d.1) rows hg
  refine ⟨c, l.map Subtype.val, rfl, by simpa [List.map_map, Function.comp_def] using hs, fun h hh => ?_⟩
  obtain ⟨d, _, rfl⟩ := List.mem_map.1 hh
  exact d.2
theorem parts_of {H : Type} {enc : TypeId × Value → H} {W : World} {base : Nat} {spare : Nat → Bool} {held : Bool} {fuel : Nat} {cs : List Value} {x : DataW H × List MemPlace}
    (h : DataW.trod enc Tryz.prog W base spare held fuel 41 cs = some x) : ∃ (c : Value) (l : List Np), cs = [c] ∧ NpAt W c l ∧ ∀ q ∈ l, ∀ x ∈ q.2, x.fit := by
  obtain ⟨c, rfl, h1⟩ := slice_one Tryz.underlying41 h
  rw [← h1] at h
  obtain ⟨rows, hs, _, hg⟩ := open_sl (sz := 1) (Good := fun cs => ∃ d : { q : Np // Sl W 2 q.1 (q.2.map Lt.row) ∧ ∀ x ∈ q.2, x.fit }, cs = [d.1.1]) Tryz.underlying41 (by kernel_rfl) h1 h (fun n cs y hy => by
    obtain ⟨c', l, e1, e2, e3⟩ := lots_of hy
    exact ⟨⟨(c', l), e2, e3⟩, e1⟩) (by decide)
  obtain ⟨l, rfl⟩ := choose_map (f := fun d : { q : Np // Sl W 2 q.1 (q.2.map Lt.row) ∧ ∀ x ∈ q.2, x.fit } => [d.1.1]) rows hg
  refine ⟨c, l.map Subtype.val, rfl, ⟨by simpa [List.map_map, Function.comp_def] using hs, fun q hq => ?_⟩, fun q hq => ?_⟩
  · obtain ⟨d, _, rfl⟩ := List.mem_map.1 hq
    exact d.2.1
  · obtain ⟨d, _, rfl⟩ := List.mem_map.1 hq
    exact d.2.2
theorem op_of {H : Type} {enc : TypeId × Value → H} {W : World} {base : Nat} {spare : Nat → Bool} {held : Bool} {fuel : Nat} {cs : List Value} {x : DataW H × List MemPlace}
    (h : DataW.trod enc Tryz.prog W base spare held fuel 43 cs = some x) : ∃ o : Opv, cs = o.row ∧ o.at W ∧ o.fit := by
  obtain ⟨hl, m, hg⟩ := row_fields Tryz.underlying43 (by kernel_rfl) (by kernel_rfl) h
  match cs, hl with
  | [c0, c1, c2, c3, c4, c5, c6, c7], _ =>
    obtain ⟨z0, g0⟩ := hg 0 _ rfl c0 rfl
    obtain ⟨s0, e0, _, f0⟩ := DataW.trod_int Tryz.underlying3 g0
    obtain rfl : c0 = .int .i64 s0 := by simpa using e0
    obtain ⟨z1, g1⟩ := hg 1 _ rfl c1 rfl
    obtain ⟨s1, e1, _, f1⟩ := DataW.trod_string Tryz.underlying9 g1
    obtain rfl : c1 = .string s1 := by simpa using e1
    obtain ⟨z2, g2⟩ := hg 2 _ rfl c2 rfl
    obtain ⟨s2, e2, _, f2⟩ := DataW.trod_string Tryz.underlying9 g2
    obtain rfl : c2 = .string s2 := by simpa using e2
    obtain ⟨z3, g3⟩ := hg 3 _ rfl c3 rfl
    obtain ⟨s3, e3, _, f3⟩ := DataW.trod_string Tryz.underlying9 g3
    obtain rfl : c3 = .string s3 := by simpa using e3
    obtain ⟨z4, g4⟩ := hg 4 _ rfl c4 rfl
    obtain ⟨s4, e4, _, f4⟩ := DataW.trod_int Tryz.underlying3 g4
    obtain rfl : c4 = .int .i64 s4 := by simpa using e4
    obtain ⟨z5, g5⟩ := hg 5 _ rfl c5 rfl
    obtain ⟨c5', l5, e5, h5, f5⟩ := lots_of g5
    obtain rfl : c5 = c5' := by simpa using e5
    obtain ⟨z6, g6⟩ := hg 6 _ rfl c6 rfl
    obtain ⟨c6', l6, e6, h6, f6⟩ := texts_of g6
    obtain rfl : c6 = c6' := by simpa using e6
    obtain ⟨z7, g7⟩ := hg 7 _ rfl c7 rfl
    obtain ⟨c7', l7, e7, h7, f7⟩ := parts_of g7
    obtain rfl : c7 = c7' := by simpa using e7
    exact ⟨⟨s0, s1, s2, s3, s4, l5, l6, l7, c5, c6, c7⟩, rfl, ⟨h5, h6, h7⟩, ⟨f1, f2, f3, f5, f6, f7⟩⟩
/-- An argument that is a row of calls. -/
theorem open_ops25 {H : Type} {enc : TypeId × Value → H} {W : World} {base : Nat} {v : Value} {d : DataW H} {p : List MemPlace} (hv : Value.okWide Tryz.prog W .any base 22 v)
    (h : DataW.Trod enc Tryz.prog W 0 (fun _ => true) true 22 v d p) : ∃ l : List Opv, OpsAt W v l ∧ ∀ o ∈ l, o.fit := by
  obtain ⟨a, len, cap, rfl⟩ := okWide_slice Tryz.underlying22 hv
  obtain ⟨fuel, hf⟩ := h
  obtain ⟨rows, hs, _, hg⟩ := open_sl (sz := 8) (Good := fun cs => ∃ d : { o : Opv // o.at W ∧ o.fit }, cs = d.1.row) Tryz.underlying22 (by kernel_rfl) rfl hf (fun n cs y hy => by
    obtain ⟨o, e, h1, h2⟩ := op_of hy
    exact ⟨⟨o, h1, h2⟩, e⟩) (by decide)
  obtain ⟨l, rfl⟩ := choose_map (f := fun d : { o : Opv // o.at W ∧ o.fit } => d.1.row) rows hg
  refine ⟨l.map Subtype.val, ⟨by simpa [List.map_map, Function.comp_def] using hs, fun q hq => ?_⟩, fun q hq => ?_⟩
  · obtain ⟨d, _, rfl⟩ := List.mem_map.1 hq
    exact d.2.1
  · obtain ⟨d, _, rfl⟩ := List.mem_map.1 hq
    exact d.2.2
/-- An argument that is one call. -/
theorem open_op25 {H : Type} {enc : TypeId × Value → H} {W : World} {base : Nat} {v : Value} {d : DataW H} {p : List MemPlace} (hv : Value.okWide Tryz.prog W .any base 43 v)
    (h : DataW.Trod enc Tryz.prog W 0 (fun _ => true) true 43 v d p) : ∃ o : Opv, v = .agg o.cells ∧ o.at W ∧ o.fit := by
  obtain ⟨cs, rfl, hsz⟩ := okWide_struct Tryz.underlying43 hv
  obtain ⟨fuel, hf⟩ := h
  obtain ⟨o, e, h1, h2⟩ := op_of hf
  obtain ⟨cs⟩ := cs
  simp only [Value.cells] at e
  exact ⟨o, by rw [e]; rfl, h1, h2⟩
theorem open_lots25 {H : Type} {enc : TypeId × Value → H} {W : World} {base : Nat} {v : Value} {d : DataW H} {p : List MemPlace} (hv : Value.okWide Tryz.prog W .any base 32 v)
    (h : DataW.Trod enc Tryz.prog W 0 (fun _ => true) true 32 v d p) : ∃ l : List Lt, Sl W 2 v (l.map Lt.row) ∧ ∀ x ∈ l, x.fit := by
  obtain ⟨a, len, cap, rfl⟩ := okWide_slice Tryz.underlying32 hv
  obtain ⟨fuel, hf⟩ := h
  obtain ⟨c, l, e, h1, h2⟩ := lots_of hf
  obtain rfl : Value.slice a len cap = c := by simpa [Value.cells] using e
  exact ⟨l, h1, h2⟩
end Go.Proofs.YticnmmfiadpbbaaGreat.Sc
namespace Go.Proofs.YticnmmfiadpbbaaGreat.Sc
open Go Go.RowKit Go.ChangeShapes Go.WideShapes Go.ChangeAt
set_option maxRecDepth 100000

def heavyR (l : List Lt) : Bool := (l.any fun x => decide ((60 : Int) < (x.good.size : Int))) || decide ((70 : Int) < (l.length : Int))
def longO (o : Opv) : Bool := heavyR o.lots || (decide ((70 : Int) < (o.parts.length : Int)) || (decide ((70 : Int) < (o.nums.length : Int)) || (decide ((200 : Int) < wrap64 (wrap64 ((o.num.size : Int) + o.by'.size) + o.to'.size)) ||
  ((o.parts.any fun q => heavyR q.2) || o.nums.any fun s => decide ((60 : Int) < (s.size : Int))))))
def longR (l : List Opv) : Bool := l.any longO || decide ((20 : Int) < (l.length : Int))
theorem heavyR_len {l : List Lt} (h : heavyR l = false) : l.length ≤ 70 := by
  simp only [heavyR, Bool.or_eq_false_iff, decide_eq_false_iff_not] at h
  omega
/-- Few calls: their bounds. -/
structure Opv.small (o : Opv) : Prop where
  lots : o.lots.length ≤ 70
  nums : o.nums.length ≤ 70
  parts : o.parts.length ≤ 70
  each : ∀ q ∈ o.parts, q.2.length ≤ 70
theorem longO_small {o : Opv} (h : longO o = false) : o.small := by
  simp only [longO, Bool.or_eq_false_iff, decide_eq_false_iff_not] at h
  obtain ⟨h1, h2, h3, -, h5, -⟩ := h
  refine ⟨heavyR_len h1, by omega, by omega, fun q hq => ?_⟩
  rw [List.any_eq_false] at h5
  exact heavyR_len (by simpa using h5 q hq)
theorem longR_small {l : List Opv} (h : longR l = false) : (∀ o ∈ l, o.small) ∧ l.length ≤ 20 := by
  simp only [longR, Bool.or_eq_false_iff, decide_eq_false_iff_not, List.any_eq_false] at h
  exact ⟨fun o ho => longO_small (by simpa using h.1 o ho), by omega⟩
theorem cells8 {w : World} {b : Nat} {x0 x1 x2 x3 x4 x5 x6 x7 : Value} {T : TypeId} {fr : Nat × Nat} (h : w.heap[b]? = some (.cells #[x0, x1, x2, x3, x4, x5, x6, x7] T fr)) :
    w.cell? ⟨b, 0, none⟩ = some x0 ∧ w.cell? ⟨b, 1, none⟩ = some x1 ∧ w.cell? ⟨b, 2, none⟩ = some x2 ∧ w.cell? ⟨b, 3, none⟩ = some x3 ∧ w.cell? ⟨b, 4, none⟩ = some x4 ∧ w.cell? ⟨b, 5, none⟩ = some x5 ∧ w.cell? ⟨b, 6, none⟩ = some x6 ∧ w.cell? ⟨b, 7, none⟩ = some x7 :=
  ⟨cell_blk h 0, cell_blk h 1, cell_blk h 2, cell_blk h 3, cell_blk h 4, cell_blk h 5, cell_blk h 6, cell_blk h 7⟩
set_option maxHeartbeats 4000000 in
theorem heavy_any (l : List Lt) (v : Value) (w : World) (hs : Sl w 2 v (l.map Lt.row)) : Calls Tryz.prog 11 #[v] w (RetB w (heavyR l)) := by
  have hll : l.length ≤ 9223372036854775807 := by have := hs.len_le; simp only [List.length_map, maxLen] at this; omega
  obtain ⟨a, c, rfl⟩ : ∃ a c, v = .slice a l.length c := by simpa using hs.shape
  have HS := Lib.hid hs
  obtain ⟨f, hf⟩ : ∃ f : Lt → Bool, f = fun x => decide ((60 : Int) < (x.good.size : Int)) := ⟨_, rfl⟩
  obtain ⟨B, hB⟩ : ∃ B, B = heavyR l := ⟨_, rfl⟩
  rw [← hB]
  have HW : Hid (B = (l.any f || decide ((70 : Int) < (l.length : Int)))) := Lib.hid (by rw [hB, hf]; rfl)
  have HFF := Lib.hid hf
  clear hs hf hB
  go_enter Tryz.func11, Tryz.ntmps11
  go_wp2_with fail
  go_loopw [4, 7] (fun _ i wr => ∃ k : Nat, k ≤ l.length ∧ i = .int .i64 k ∧ l.any f = (l.drop k).any f ∧ Below w.heap.size w wr) (fun _ i _ => l.length - (intOf i).toNat)
  case atStart => exact ⟨0, Nat.zero_le _, rfl, by rw [List.drop_zero], Below.refl _ _⟩
  case round =>
    obtain ⟨k, hk, rfl, hrel, hbel⟩ := hrel
    have HBEL := Lib.hid hbel
    by_cases hlt : k < l.length
    · obtain ⟨b, off, rfl, -, hb, hc⟩ := HS.out.at (i := k) (by simpa using hlt)
      have d0 := (hbel.cell (p := ⟨b, off + k * 2, none⟩) hb).trans (hc k l[k].row (by simp [hlt]) 0 _ rfl)
      have d1 := (hbel.cell (p := ⟨b, off + k * 2 + 1, none⟩) hb).trans (hc k l[k].row (by simp [hlt]) 1 _ rfl)
      rw [List.drop_eq_getElem_cons hlt, List.any_cons] at hrel
      generalize l[k] = x at *
      obtain ⟨xg, xc⟩ := x
      simp only at d0 d1
      have hfx : f ⟨xg, xc⟩ = decide ((60 : Int) < (xg.size : Int)) := by rw [HFF.out]
      rw [hfx] at hrel
      clear hfx hc hbel
      cases ht : decide ((60 : Int) < (xg.size : Int))
      · rw [ht, Bool.false_or] at hrel
        have HR := Lib.hid hrel
        clear hrel
        go_wp2_with fail
        go_roundw
        case rel => exact ⟨k + 1, by omega, by go_num, HR.out, HBEL.out.alloc HBEL.out.size _⟩
        case measure => (simp [intOf]) <;> omega
      · rw [ht, Bool.true_or] at hrel
        have HR := Lib.hid hrel
        clear hrel
        go_wp2_with fail
        go_ret
        exact retB (by rw [HW.out, HR.out]; rfl) (HBEL.out.alloc HBEL.out.size _)
    · have HR : Hid (l.any f = false) := Lib.hid (by rw [hrel, List.drop_of_length_le (by omega)]; rfl)
      clear hrel hbel
      go_wp2_with fail
      go_ret
      exact retB (by rw [HW.out, HR.out, Bool.false_or]) HBEL.out
set_option maxHeartbeats 16000000 in
theorem long_any (l : List Opv) (v : Value) (w : World) (hs : OpsAt w v l) (hfit : ∀ o ∈ l, o.fit) : Calls Tryz.prog 4 #[v] w (RetB w (longR l)) := by
  have hll : l.length ≤ 9223372036854775807 := by have := hs.1.len_le; simp only [List.length_map, maxLen] at this; omega
  obtain ⟨a, c, rfl⟩ : ∃ a c, v = .slice a l.length c := by simpa using hs.1.shape
  have HS := Lib.hid hs
  have HFIT := Lib.hid hfit
  obtain ⟨f, hf⟩ : ∃ f : Opv → Bool, f = longO := ⟨_, rfl⟩
  obtain ⟨B, hB⟩ : ∃ B, B = longR l := ⟨_, rfl⟩
  rw [← hB]
  have HW : Hid (B = (l.any f || decide ((20 : Int) < (l.length : Int)))) := Lib.hid (by rw [hB, hf]; rfl)
  have HFF := Lib.hid hf
  clear hs hf hB hfit
  go_enter Tryz.func4, Tryz.ntmps4
  go_wp2_with fail
  go_loopw [4, 11] (fun _ i wr => ∃ k : Nat, k ≤ l.length ∧ i = .int .i64 k ∧ l.any f = (l.drop k).any f ∧ Below w.heap.size w wr) (fun _ i _ => l.length - (intOf i).toNat)
  case atStart => exact ⟨0, Nat.zero_le _, rfl, by rw [List.drop_zero], Below.refl _ _⟩
  case round =>
    obtain ⟨k, hk, rfl, hrel, hbel⟩ := hrel
    have HBEL := Lib.hid hbel
    by_cases hlt : k < l.length
    · obtain ⟨b, off, rfl, -, hb, hc⟩ := HS.out.1.at (i := k) (by simpa using hlt)
      have hr := hc k l[k].row (by simp [hlt])
      have d0 := (hbel.cell (p := ⟨b, off + k * 8, none⟩) hb).trans (hr 0 _ rfl)
      have d1 := (hbel.cell (p := ⟨b, off + k * 8 + 1, none⟩) hb).trans (hr 1 _ rfl)
      have d2 := (hbel.cell (p := ⟨b, off + k * 8 + 2, none⟩) hb).trans (hr 2 _ rfl)
      have d3 := (hbel.cell (p := ⟨b, off + k * 8 + 3, none⟩) hb).trans (hr 3 _ rfl)
      have d4 := (hbel.cell (p := ⟨b, off + k * 8 + 4, none⟩) hb).trans (hr 4 _ rfl)
      have d5 := (hbel.cell (p := ⟨b, off + k * 8 + 5, none⟩) hb).trans (hr 5 _ rfl)
      have d6 := (hbel.cell (p := ⟨b, off + k * 8 + 6, none⟩) hb).trans (hr 6 _ rfl)
      have d7 := (hbel.cell (p := ⟨b, off + k * 8 + 7, none⟩) hb).trans (hr 7 _ rfl)
      rw [List.drop_eq_getElem_cons hlt, List.any_cons] at hrel
      obtain ⟨hal, han, hap⟩ := HS.out.2 l[k] (List.getElem_mem hlt)
      have hfo := HFIT.out l[k] (List.getElem_mem hlt)
      generalize l[k] = x at *
      obtain ⟨xk, xn, xb, xt, xd, xl, xs, xp, lv, nv, pv⟩ := x
      simp only at d0 d1 d2 d3 d4 d5 d6 d7 hal han hap
      obtain ⟨al, cl, rfl⟩ : ∃ a c, lv = .slice a xl.length c := by simpa using hal.shape
      obtain ⟨an, cn, rfl⟩ : ∃ a c, nv = .slice a xs.length c := by simpa using han.shape
      obtain ⟨ap, cp, rfl⟩ : ∃ a c, pv = .slice a xp.length c := by simpa using hap.1.shape
      have hfx : f ⟨xk, xn, xb, xt, xd, xl, xs, xp, .slice al xl.length cl, .slice an xs.length cn, .slice ap xp.length cp⟩ = (heavyR xl || (decide ((70 : Int) < (xp.length : Int)) || (decide ((70 : Int) < (xs.length : Int)) || (decide ((200 : Int) < wrap64 (wrap64 ((xn.size : Int) + xb.size) + xt.size)) ||
        ((xp.any fun q => heavyR q.2) || xs.any fun s => decide ((60 : Int) < (s.size : Int))))))) := by rw [HFF.out]; rfl
      have HPA := Lib.hid hap
      have HNU := Lib.hid han
      have HNF : Hid (∀ s ∈ xs, s.size ≤ 9223372036854775807) := Lib.hid hfo.nums
      obtain ⟨wo, rfl⟩ : ∃ W, W = wr := ⟨_, rfl⟩
      have HHV := Lib.hid (fun W (hb : Below wo.heap.size wo W) => heavy_any xl _ W (hal.below (HBEL.out.trans (hb.mono HBEL.out.size)) (Nat.le_refl _)))
      have hz1 : xp.length ≤ 9223372036854775807 := by have := hap.1.len_le; simp only [List.length_map, maxLen] at this; omega
      have hz2 : xs.length ≤ 9223372036854775807 := by have := han.len_le; simp only [List.length_map, maxLen] at this; omega
      have hz3 : xn.size ≤ 9223372036854775807 := hfo.num
      have hz4 : xb.size ≤ 9223372036854775807 := hfo.by'
      have hz5 : xt.size ≤ 9223372036854775807 := hfo.to'
      clear hr hc hbel hal han hap hfo
      have HB0 := Lib.hid (one_below wo (.cells #[.int .i64 xk, .string xn, .string xb, .string xt, .int .i64 xd, .slice al xl.length cl, .slice an xs.length cn, .slice ap xp.length cp] 43))
      have HX0 : Hid ((wo.alloc (.cells #[.int .i64 xk, .string xn, .string xb, .string xt, .int .i64 xd, .slice al xl.length cl, .slice an xs.length cn, .slice ap xp.length cp] 43)).heap[wo.heap.size]? = some (.cells #[.int .i64 xk, .string xn, .string xb, .string xt, .int .i64 xd, .slice al xl.length cl, .slice an xs.length cn, .slice ap xp.length cp] 43 (0, 0))) := Lib.hid (heap_alloc_new _ _)
      cases T1 : heavyR xl
      all_goals rw [T1] at HHV
      · cases T2 : decide ((70 : Int) < (xp.length : Int))
        · cases T3 : decide ((70 : Int) < (xs.length : Int))
          · cases T4 : decide ((200 : Int) < wrap64 (wrap64 ((xn.size : Int) + xb.size) + xt.size))
            · have HR : Hid (l.any f = ((xp.any fun q => heavyR q.2) || ((xs.any fun s => decide ((60 : Int) < (s.size : Int))) || (l.drop (k + 1)).any f))) := Lib.hid (by rw [hrel, hfx]; simp only [T1, T2, T3, T4, Bool.false_or, Bool.or_assoc])
              clear hrel hfx
              go_wp2_with (first
                | ((with_reducible refine (HHV.out _ (HB0.out)).mono ?_); rintro e w1 ⟨rfl, hb1⟩; have HB1 := Lib.hid (HB0.out.trans (hb1.mono HB0.out.size)); have HX1 := Lib.hid (blk hb1 (lt_blk HX0.out) HX0.out); obtain ⟨x0, x1, x2, x3, x4, x5, x6, x7⟩ := cells8 HX1.out; clear hb1)
                | fail)
              go_loopw [6, 47] (fun _ j w2 => ∃ m : Nat, m ≤ xp.length ∧ j = .int .i64 m ∧ (xp.any fun q => heavyR q.2) = ((xp.drop m).any fun q => heavyR q.2) ∧ Below wo.heap.size wo w2 ∧ w2.heap[wo.heap.size]? = some (.cells #[.int .i64 xk, .string xn, .string xb, .string xt, .int .i64 xd, .slice al xl.length cl, .slice an xs.length cn, .slice ap xp.length cp] 43 (0, 0))) (fun _ j _ => xp.length - (intOf j).toNat)
              case atStart => exact ⟨0, Nat.zero_le _, rfl, by rw [List.drop_zero], HB1.out, HX1.out⟩
              case round =>
                obtain ⟨m, hm, rfl, hp, hb2, hx2⟩ := hrel
                have HB2 := Lib.hid hb2
                have HX2 := Lib.hid hx2
                clear x0 x1 x2 x3 x4 x5 x6 x7
                by_cases hlm : m < xp.length
                · obtain ⟨bp, offp, rfl, -, hbp, hcp⟩ := HPA.out.1.at (i := m) (by simpa using hlm)
                  have d0 : wr.cell? ⟨bp, offp + m * 1, none⟩ = some xp[m].1 := ((HBEL.out.trans (hb2.mono HBEL.out.size)).cell (p := ⟨bp, offp + m * 1, none⟩) hbp).trans (hcp m [xp[m].1] (by simp [hlm]) 0 _ rfl)
                  rw [Nat.mul_one] at d0
                  have hq := HPA.out.2 xp[m] (List.getElem_mem hlm)
                  rw [List.drop_eq_getElem_cons hlm, List.any_cons] at hp
                  generalize xp[m] = q at *
                  obtain ⟨qv, ql⟩ := q
                  simp only at d0 hq hp
                  obtain ⟨aq, cq, rfl⟩ : ∃ a c, qv = .slice a ql.length c := by simpa using hq.shape
                  have HH2 := Lib.hid (fun W (hb : Below wo.heap.size wo W) => heavy_any ql _ W (hq.below (HBEL.out.trans (hb.mono HBEL.out.size)) (Nat.le_refl _)))
                  clear hq hbp hcp hb2 hx2
                  cases tq : heavyR ql
                  · rw [tq, Bool.false_or] at hp
                    rw [tq] at HH2
                    have HP2 := Lib.hid hp
                    clear hp tq
                    go_wp2_with (first
                      | ((with_reducible refine (HH2.out _ HB2.out).mono ?_); rintro e w3 ⟨rfl, hb3⟩; have HB3 := Lib.hid (HB2.out.trans (hb3.mono HB2.out.size)); have HX3 := Lib.hid (blk hb3 (lt_blk HX2.out) HX2.out); clear hb3)
                      | fail)
                    go_roundw
                    case rel => exact ⟨m + 1, by omega, by go_num, HP2.out, HB3.out, HX3.out⟩
                    case measure => (simp [intOf]) <;> omega
                  · rw [tq, Bool.true_or] at hp
                    rw [tq] at HH2
                    have HP2 := Lib.hid hp
                    clear hp tq
                    go_wp2_with (first
                      | ((with_reducible refine (HH2.out _ HB2.out).mono ?_); rintro e w3 ⟨rfl, hb3⟩; have HB3 := Lib.hid (HB2.out.trans (hb3.mono HB2.out.size)); clear hb3)
                      | fail)
                    go_ret
                    exact retB (by rw [HW.out, HR.out, HP2.out]; rfl) (HBEL.out.trans (HB3.out.mono HBEL.out.size))
                · have HP2 : Hid ((xp.any fun q => heavyR q.2) = false) := Lib.hid (by rw [hp, List.drop_of_length_le (by omega)]; rfl)
                  clear hp hb2 hx2
                  obtain ⟨x0, x1, x2, x3, x4, x5, x6, x7⟩ := cells8 HX2.out
                  go_wp2_with fail
                  clear x0 x1 x2 x3 x4 x5 x6 x7
                  go_loopw [8, 57] (fun _ j w4 => ∃ m : Nat, m ≤ xs.length ∧ j = .int .i64 m ∧ (xs.any fun s => decide ((60 : Int) < (s.size : Int))) = ((xs.drop m).any fun s => decide ((60 : Int) < (s.size : Int))) ∧ Below wo.heap.size wo w4) (fun _ j _ => xs.length - (intOf j).toNat)
                  case atStart => exact ⟨0, Nat.zero_le _, rfl, by rw [List.drop_zero], HB2.out⟩
                  case round =>
                    obtain ⟨m, hm, rfl, hp, hb4⟩ := hrel
                    have HB4 := Lib.hid hb4
                    by_cases hlm : m < xs.length
                    · obtain ⟨bn, offn, rfl, -, hbn, hcn⟩ := HNU.out.at (i := m) (by simpa using hlm)
                      have d0 : wr.cell? ⟨bn, offn + m * 1, none⟩ = some (.string xs[m]) := ((HBEL.out.trans (hb4.mono HBEL.out.size)).cell (p := ⟨bn, offn + m * 1, none⟩) hbn).trans (hcn m (stRow xs[m]) (by simp [hlm]) 0 _ rfl)
                      rw [Nat.mul_one] at d0
                      rw [List.drop_eq_getElem_cons hlm, List.any_cons] at hp
                      have hsz := HNF.out xs[m] (List.getElem_mem hlm)
                      generalize xs[m] = q at *
                      clear hbn hcn hb4
                      cases tq : decide ((60 : Int) < (q.size : Int))
                      · rw [tq, Bool.false_or] at hp
                        have HP3 := Lib.hid hp
                        clear hp
                        go_wp2_with fail
                        go_roundw
                        case rel => exact ⟨m + 1, by omega, by go_num, HP3.out, HB4.out⟩
                        case measure => (simp [intOf]) <;> omega
                      · rw [tq, Bool.true_or] at hp
                        have HP3 := Lib.hid hp
                        clear hp
                        go_wp2_with fail
                        go_ret
                        exact retB (by rw [HW.out, HR.out, HP2.out, HP3.out]; rfl) (HBEL.out.trans (HB4.out.mono HBEL.out.size))
                    · have HP3 : Hid ((xs.any fun s => decide ((60 : Int) < (s.size : Int))) = false) := Lib.hid (by rw [hp, List.drop_of_length_le (by omega)]; rfl)
                      clear hp hb4
                      go_wp2_with fail
                      go_roundw
                      case rel => exact ⟨k + 1, by omega, by go_num, by rw [HR.out, HP2.out, HP3.out]; rfl, HBEL.out.trans (HB4.out.mono HBEL.out.size)⟩
                      case measure => (simp [intOf]) <;> omega
            · have HR : Hid (l.any f = true) := Lib.hid (by rw [hrel, hfx]; simp only [T1, T2, T3, T4, Bool.false_or, Bool.true_or])
              clear hrel hfx T1
              go_wp2_with (first
                | ((with_reducible refine (HHV.out _ (HB0.out)).mono ?_); rintro e w1 ⟨rfl, hb1⟩; have HB1 := Lib.hid (HB0.out.trans (hb1.mono HB0.out.size)); have HX1 := Lib.hid (blk hb1 (lt_blk HX0.out) HX0.out); obtain ⟨x0, x1, x2, x3, x4, x5, x6, x7⟩ := cells8 HX1.out; clear hb1)
                | fail)
              go_ret
              exact retB (by rw [HW.out, HR.out]; rfl) (HBEL.out.trans (HB1.out.mono HBEL.out.size))
          · have HR : Hid (l.any f = true) := Lib.hid (by rw [hrel, hfx]; simp only [T1, T2, T3, Bool.false_or, Bool.true_or])
            clear hrel hfx T1
            go_wp2_with (first
              | ((with_reducible refine (HHV.out _ (HB0.out)).mono ?_); rintro e w1 ⟨rfl, hb1⟩; have HB1 := Lib.hid (HB0.out.trans (hb1.mono HB0.out.size)); have HX1 := Lib.hid (blk hb1 (lt_blk HX0.out) HX0.out); obtain ⟨x0, x1, x2, x3, x4, x5, x6, x7⟩ := cells8 HX1.out; clear hb1)
              | fail)
            go_ret
            exact retB (by rw [HW.out, HR.out]; rfl) (HBEL.out.trans (HB1.out.mono HBEL.out.size))
        · have HR : Hid (l.any f = true) := Lib.hid (by rw [hrel, hfx]; simp only [T1, T2, Bool.false_or, Bool.true_or])
          clear hrel hfx T1
          go_wp2_with (first
            | ((with_reducible refine (HHV.out _ (HB0.out)).mono ?_); rintro e w1 ⟨rfl, hb1⟩; have HB1 := Lib.hid (HB0.out.trans (hb1.mono HB0.out.size)); have HX1 := Lib.hid (blk hb1 (lt_blk HX0.out) HX0.out); obtain ⟨x0, x1, x2, x3, x4, x5, x6, x7⟩ := cells8 HX1.out; clear hb1)
            | fail)
          go_ret
          exact retB (by rw [HW.out, HR.out]; rfl) (HBEL.out.trans (HB1.out.mono HBEL.out.size))
      · have HR : Hid (l.any f = true) := Lib.hid (by rw [hrel, hfx]; simp only [T1, Bool.true_or])
        clear hrel hfx T1
        go_wp2_with (first
          | ((with_reducible refine (HHV.out _ (HB0.out)).mono ?_); rintro e w1 ⟨rfl, hb1⟩; have HB1 := Lib.hid (HB0.out.trans (hb1.mono HB0.out.size)); have HX1 := Lib.hid (blk hb1 (lt_blk HX0.out) HX0.out); obtain ⟨x0, x1, x2, x3, x4, x5, x6, x7⟩ := cells8 HX1.out; clear hb1)
          | fail)
        go_ret
        exact retB (by rw [HW.out, HR.out]; rfl) (HBEL.out.trans (HB1.out.mono HBEL.out.size))
    · have HR : Hid (l.any f = false) := Lib.hid (by rw [hrel, List.drop_of_length_le (by omega)]; rfl)
      clear hrel hbel
      go_wp2_with fail
      go_ret
      exact retB (by rw [HW.out, HR.out, Bool.false_or]) HBEL.out
end Go.Proofs.YticnmmfiadpbbaaGreat.Sc
namespace Go.Proofs.YticnmmfiadpbbaaGreat.Sc
open Go Go.RowKit Go.ChangeShapes Go.WideShapes Go.ChangeAt
set_option maxRecDepth 100000

theorem Sl.keepX {w w' : World} {sz : Nat} {v : Value} {xs : List (List Value)} (h : Sl w sz v xs) (hs : w.heap.size ≤ w'.heap.size)
    (hk : ∀ b o r, r ∈ xs → (∀ (j : Nat) u, r[j]? = some u → w.cell? ⟨b, o + j, none⟩ = some u) → ∀ (j : Nat) u, r[j]? = some u → w'.cell? ⟨b, o + j, none⟩ = some u) : Sl w' sz v xs := by
  rcases h with h | ⟨b, off, cap, rfl, hlt, h1, h2, hc⟩
  · exact .inl h
  · exact .inr ⟨b, off, cap, rfl, Nat.lt_of_lt_of_le hlt hs, h1, h2, fun i r hr j u hu => hk b _ r (List.mem_of_getElem? hr) (fun j u hu => hc i r hr j u hu) j u hu⟩
/-- The cells of a house's box. -/
def hsCells (s : ByteArray) (a : Option Addr) (n c : Nat) (a' : Option Addr) (n' c' : Nat) : Array Value := #[.string s, .slice a n c, .slice a' n' c']
theorem setRow_other {w : World} {g b o : Nat} {cs : Array Value} (h : b ≠ g) : (w.setRow g cs).cell? ⟨b, o, none⟩ = w.cell? ⟨b, o, none⟩ := by
  have h' : ¬ g = b := fun e => h e.symm
  have e : (w.setRow g cs).heap[b]? = w.heap[b]? := by simp [World.setRow, Array.getElem?_modify, h']
  simp only [World.cell?, e]
theorem hs_no_int {w : World} {b k : Nat} {s : ByteArray} {a a' : Option Addr} {n c n' c' : Nat} {T : TypeId} {fr : Nat × Nat} {i : IntKind} {x : Int} (hb : w.heap[b]? = some (.cells #[.string s, .slice a n c, .slice a' n' c'] T fr)) : w.cell? ⟨b, k, none⟩ ≠ some (.int i x) := by
  rw [cell_blk hb k]
  match k with
  | 0 => simp
  | 1 => simp
  | 2 => simp
  | m + 3 => simp
theorem hs_str {w : World} {b k : Nat} {s t : ByteArray} {a a' : Option Addr} {n c n' c' : Nat} {T : TypeId} {fr : Nat × Nat} (hb : w.heap[b]? = some (.cells #[.string s, .slice a n c, .slice a' n' c'] T fr)) (h : w.cell? ⟨b, k, none⟩ = some (.string t)) : k = 0 ∧ t = s := by
  rw [cell_blk hb k] at h
  match k with
  | 0 => simp at h; exact ⟨rfl, h.symm⟩
  | 1 => simp at h
  | 2 => simp at h
  | m + 3 => simp at h
section
variable {w : World} {g : Nat} {s s1 : ByteArray} {a a' d d' : Option Addr} {n c n' c' m e m' e' : Nat} {T : TypeId} {fr : Nat × Nat}
theorem Sl.boxInt {sz : Nat} {v : Value} {xs : List (List Value)} (h : Sl w sz v xs) (hx : ∀ r ∈ xs, ∃ (j : Nat) (i : IntKind) (x : Int), r[j]? = some (.int i x)) (hb : w.heap[g]? = some (.cells #[.string s, .slice a n c, .slice a' n' c'] T fr)) (cs : Array Value) : Sl (w.setRow g cs) sz v xs :=
  h.keepX (by simp [World.setRow]) fun b o r hr hc j u hu => by
    obtain ⟨j', i, x, hj⟩ := hx r hr
    have hne : b ≠ g := fun e => hs_no_int hb (e ▸ hc j' _ hj)
    rw [setRow_other hne]
    exact hc j u hu
theorem lots_int (l : List Lt) : ∀ r ∈ l.map Lt.row, ∃ (j : Nat) (i : IntKind) (x : Int), r[j]? = some (.int i x) := by
  intro r hr
  obtain ⟨y, -, rfl⟩ := List.mem_map.1 hr
  exact ⟨1, _, _, rfl⟩
theorem rvs_int (M : List Rv) : ∀ r ∈ M.map Rv.row, ∃ (j : Nat) (i : IntKind) (x : Int), r[j]? = some (.int i x) := by
  intro r hr
  obtain ⟨y, -, rfl⟩ := List.mem_map.1 hr
  exact ⟨4, _, _, rfl⟩
theorem Sl.boxStr {v : Value} {us : List ByteArray} (h : Sl w 1 v (us.map stRow)) (hb : w.heap[g]? = some (.cells #[.string s, .slice a n c, .slice a' n' c'] T fr)) (hs : s = s1 ∨ ∀ t ∈ us, t ≠ s) : Sl (w.setRow g #[.string s1, .slice d m e, .slice d' m' e']) 1 v (us.map stRow) :=
  h.keepX (by simp [World.setRow]) fun b o r hr hc j u hu => by
    obtain ⟨t, ht, rfl⟩ := List.mem_map.1 hr
    by_cases hne : b = g
    · have h0 := hc 0 (.string t) rfl
      rw [hne, Nat.add_zero] at h0
      obtain ⟨ho, hts⟩ := hs_str hb h0
      rcases hs with hs | hs
      · match j, hu with
        | 0, hu =>
          obtain rfl : Value.string t = u := by simpa [stRow] using hu
          rw [hne, ho, cell_blk (setRow_at hb) 0, hts, hs]
          rfl
        | q + 1, hu => simp [stRow] at hu
      · exact absurd hts (hs t ht)
    · rw [setRow_other hne]
      exact hc j u hu
theorem RefH.boxed {x : Value} {h : Hs} (r : RefH w x h) (hb : w.heap[g]? = some (.cells #[.string s, .slice a n c, .slice a' n' c'] T fr)) (hs : s = s1 ∨ ∀ t ∈ h.used, t ≠ s) : RefH (w.setRow g #[.string s1, .slice d m e, .slice d' m' e']) x h := by
  obtain ⟨M, vL, vU, rfl, h1, h2, h3, h4⟩ := r
  exact ⟨M, vL, vU, rfl, h1, h2.boxInt (rvs_int M) hb _, fun y hy => Sl.boxInt (h3 y hy) (lots_int _) hb _, h4.boxStr hb hs⟩
theorem Hsx.boxed {bh bm bu : Nat} {h : Hs} (H : Hsx w bh bm bu h) (hb : w.heap[g]? = some (.cells #[.string s, .slice a n c, .slice a' n' c'] T fr)) (cs : Array Value) : Hsx (w.setRow g cs) bh bm bu h := by
  obtain ⟨es, us, H⟩ := H
  have k := setRow_keep w g cs
  have n1 : ¬ bh = g := fun e => by
    have := H.box
    rw [e, hb] at this
    simp at this
  have n2 : ¬ bm = g := fun e => box_not_map hb H.rm e.symm
  have n3 : ¬ bu = g := fun e => box_not_map hb H.um e.symm
  exact ⟨es, us, k.blk H.box n1, MapAt.keep H.rm k n2, MapAt.keep H.um k n3, fun q r hr => by
    obtain ⟨lv, h3, h4⟩ := H.hit q r hr
    exact ⟨lv, h3, h4.boxInt (lots_int _) hb _⟩, H.miss, H.uses, H.ul, H.ne⟩
end
theorem RefH.keepM {F : Nat → Prop} {w w' : World} {x : Value} {h : Hs} (r : RefH w x h) (k : Keep F w w') (hF : ∀ b, F b → ∀ j, w.cell? ⟨b, j, none⟩ = none) : RefH w' x h := by
  obtain ⟨M, vL, vU, rfl, h1, h2, h3, h4⟩ := r
  exact ⟨M, vL, vU, rfl, h1, h2.keepM k hF, fun y hy => Sl.keepM (h3 y hy) k hF, h4.keepM k hF⟩
theorem Hsx.maps {w : World} {bh bm bu : Nat} {h : Hs} (H : Hsx w bh bm bu h) : ∀ b, (b = bm ∨ b = bu) → ∀ j, w.cell? ⟨b, j, none⟩ = none := by
  obtain ⟨es, us, H⟩ := H
  rintro b (rfl | rfl) j
  · exact map_no_cell H.rm j
  · exact map_no_cell H.um j
theorem Hsx.lt {w : World} {bh bm bu : Nat} {h : Hs} (H : Hsx w bh bm bu h) : bh < w.heap.size ∧ bm < w.heap.size ∧ bu < w.heap.size := by
  obtain ⟨es, us, H⟩ := H
  exact H.lt
/-- A block of cells stays where maps alone turn. -/
theorem keep_blk {F : Nat → Prop} {w w' : World} (k : Keep F w w') (hF : ∀ b, F b → ∀ j, w.cell? ⟨b, j, none⟩ = none) {b : Nat} {cs : Array Value} {T : TypeId} {fr : Nat × Nat} (h : w.heap[b]? = some (.cells cs T fr)) (h0 : 0 < cs.size) : w'.heap[b]? = some (.cells cs T fr) :=
  k.blk h fun e => by
    have := hF b e 0
    rw [cell_blk h 0, Array.getElem?_eq_getElem h0] at this
    cases this
theorem results_tmp_row_tmp {P : Program} {fn : Func} {q p u : Tmp} {ty : TypeId} (h : fn.results = #[.tmp q, .cell p ty, .tmp u]) (tmps : Array Value) (w : World) (g : Nat) (t : TypeId) (cs : Array Value) (fr : Nat × Nat) (d : TypeDesc) (v0 v : Value)
    (h0 : tmps.getD q undef = v0) (hp : tmps.getD p undef = .pointer (some ⟨g, 0, none⟩)) (hq : tmps.getD u undef = v) (hg : w.heap[g]? = some (.cells cs t fr))
    (hu : P.underlying ty = some d) (hd : (match d with | .struct _ | .array _ _ => true | _ => false) = true) (hi : (P.info? ty).map (·.size) = some cs.size) :
    (results fn tmps).run P w = .ok (.tuple #[v0, .agg cs, v]) w := by
  have h0' : tmps[q]?.getD undef = v0 := by simpa using h0
  have hp' : tmps[p]?.getD undef = .pointer (some ⟨g, 0, none⟩) := by simpa using hp
  have hq' : tmps[u]?.getD undef = v := by simpa using hq
  have e : (results fn tmps).run P w = ((asAddr (tmps.getD p undef)).run P w).andThen fun a w₁ => ((loadVar ty a).run P w₁).andThen fun v w₂ => .ok (.tuple #[tmps.getD q undef, v, tmps.getD u undef]) w₂ := by
    simp only [results, h]
    simp [Sem.run_bind, Result.andThen]
  rw [e]
  simp [h0', hp', hq', asAddr, run_loadVar_row w g t ty cs fr d hg hu hd hi, Result.andThen]
theorem results_tmp_row {P : Program} {fn : Func} {q p : Tmp} {ty : TypeId} (h : fn.results = #[.tmp q, .cell p ty]) (tmps : Array Value) (w : World) (g : Nat) (t : TypeId) (cs : Array Value) (fr : Nat × Nat) (d : TypeDesc) (v0 : Value)
    (h0 : tmps.getD q undef = v0) (hp : tmps.getD p undef = .pointer (some ⟨g, 0, none⟩)) (hg : w.heap[g]? = some (.cells cs t fr))
    (hu : P.underlying ty = some d) (hd : (match d with | .struct _ | .array _ _ => true | _ => false) = true) (hi : (P.info? ty).map (·.size) = some cs.size) :
    (results fn tmps).run P w = .ok (.tuple #[v0, .agg cs]) w := by
  have h0' : tmps[q]?.getD undef = v0 := by simpa using h0
  have hp' : tmps[p]?.getD undef = .pointer (some ⟨g, 0, none⟩) := by simpa using hp
  have e : (results fn tmps).run P w = ((asAddr (tmps.getD p undef)).run P w).andThen fun a w₁ => ((loadVar ty a).run P w₁).andThen fun v w₂ => .ok (.tuple #[tmps.getD q undef, v]) w₂ := by
    simp only [results, h]
    simp [Sem.run_bind, Result.andThen]
  rw [e]
  simp [h0', hp', asAddr, run_loadVar_row w g t ty cs fr d hg hu hd hi, Result.andThen]
end Go.Proofs.YticnmmfiadpbbaaGreat.Sc
