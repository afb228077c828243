/- Arguments that are a lot, a box, boxes. boxes: by the law's own function. A row of own boxes as any boxes. Lists of boxes: as texts; by the reference. -/
import Derived.Test.YtbigoifpfkdkjaaGreatDoorTd35
import Derived.Test.YtbigoifpfkdkjaaGreatDoorTd40
import Derived.Test.YtbigoifpfkdkjaaGreatDoorTd36
import Derived.Test.YtbigoifpfkdkjaaGreatDoorTd28
import Derived.Test.YtbigoifpfkdkjaaGreatDoorTd01
import Derived.Test.YtbigoifpfkdkjaaGreatDoorTd32
import Derived.Test.YtbigoifpfkdkjaaGreatDoorTd31
import Derived.SizedLaws
namespace Go.Proofs.YtbigoifpfkdkjaaGreatDoor.Sc
open Go Go.RowKit Go.ChangeShapes Go.WideShapes Go.ChangeAt
set_option maxRecDepth 100000

theorem sumC_lots {t : List Gd} {f : Gd → Int} {l : List Lt} (h : sumC t f l = 0) : lotsC t l = 0 := by
  unfold sumC at h
  split at h
  · assumption
  · exact h
/-- As the reference says it. -/
theorem goP_ref (t : List Gd) (k : Int) (l : List Lt) (n1 n2 : Int) (h1 : sumC t Gd.wt l = 0 → n1 = sumL t Gd.wt l) (h2 : sumC t Gd.vol l = 0 → n2 = sumL t Gd.vol l) (hk : kindOk k = true) :
    goP t k l = (decide (sumC t Gd.wt l = 0) && (decide (sumC t Gd.vol l = 0) && (decide (n1 ≤ roomW k) && (decide (n2 ≤ roomV k) && (decide (togC t l = 0) && decide ((joinL l).length ≤ 8)))))) := by
  rw [goP, hk, Bool.true_and, Bool.eq_iff_iff]
  simp only [Bool.and_eq_true, decide_eq_true_eq]
  have hr := room_le k
  constructor
  · rintro ⟨h3, h4, h5, h6, h7⟩
    have e1 : sumC t Gd.wt l = 0 := by rw [sumC, if_pos h3, if_neg (by omega)]
    have e2 : sumC t Gd.vol l = 0 := by rw [sumC, if_pos h3, if_neg (by omega)]
    exact ⟨e1, e2, by rw [h1 e1]; exact h4, by rw [h2 e2]; exact h5, h6, h7⟩
  · rintro ⟨e1, e2, h4, h5, h6, h7⟩
    exact ⟨sumC_lots e1, by rw [← h1 e1]; exact h4, by rw [← h2 e2]; exact h5, h6, h7⟩
end Go.Proofs.YtbigoifpfkdkjaaGreatDoor.Sc
namespace Go.Proofs.YtbigoifpfkdkjaaGreatDoor.Sc
open Go Go.RowKit Go.ChangeShapes Go.WideShapes Go.ChangeAt
set_option maxRecDepth 100000

def weiV (k n q : Int) : Value := if kindOk k = true then (if q = 0 then (if 1048576 < n then .tuple #[.int .i64 0, .int .i64 3] else .tuple #[.int .i64 n, .int .i64 0]) else .tuple #[.int .i64 0, .int .i64 q]) else .tuple #[.int .i64 0, .int .i64 1]
set_option maxHeartbeats 4000000 in
theorem weigh_any (t : List Gd) (m : ByteArray) (k : Int) (L : List Lt) (n q : Int) (bt bm : Nat) (vl : Value) (w : World) (hs : Sl w 2 vl (L.map Lt.row)) (htab : Tab w bt bm t) (hn : (codes t).Nodup) (hok : ∀ g ∈ t, gdOk g = true) (hv : sumV t Gd.wt L = .tuple #[.int .i64 n, .int .i64 q]) :
    Calls Tryz.prog 31 #[.pointer (some ⟨bt, 0, none⟩), .agg #[.string m, .int .i64 k, vl]] w (Ret w (weiV k n q)) := by
  obtain ⟨al, cl, rfl⟩ : ∃ a c, vl = .slice a L.length c := by simpa using hs.shape
  have HKD := Lib.hid (fun W => isKind_any k W)
  have HB5 : Hid (Below w.heap.size w (w.alloc (.cells #[.string m, .int .i64 k, .slice al L.length cl] 96))) := Lib.hid (one_below w _)
  have HX5 : Hid ((w.alloc (.cells #[.string m, .int .i64 k, .slice al L.length cl] 96)).heap[w.heap.size]? = some (.cells #[.string m, .int .i64 k, .slice al L.length cl] 96 (0, 0))) := Lib.hid (heap_alloc_new w _)
  have HWT := Lib.hid (fun W (hW : Below w.heap.size w W) => weight_any t L bt bm (.slice al L.length cl) W (hs.below hW (Nat.le_refl _)) (htab.below hW) hn hok)
  rw [hv] at HWT
  have x1 : (w.alloc (.cells #[.string m, .int .i64 k, .slice al L.length cl] 96)).cell? ⟨w.heap.size, 1, none⟩ = some (.int .i64 k) := cell_new w _ _ 1
  have HQ : Hid (weiV k n q = if kindOk k = true then (if q = 0 then (if 1048576 < n then .tuple #[.int .i64 0, .int .i64 3] else .tuple #[.int .i64 n, .int .i64 0]) else .tuple #[.int .i64 0, .int .i64 q]) else .tuple #[.int .i64 0, .int .i64 1]) := Lib.hid rfl
  clear hs htab hn hok hv
  cases hk : kindOk k
  · rw [hk, if_neg (by decide)] at HQ
    rw [hk] at HKD
    clear hk
    go_enter Tryz.func31, Tryz.ntmps31
    go_wp2_with (first | ((with_reducible refine (HKD.out _).mono ?_); rintro e w2 ⟨rfl, hb2⟩; have x2 := cell_blk (blk hb2 (lt_blk HX5.out) HX5.out) 2; have HB2 := Lib.hid (HB5.out.trans (hb2.mono HB5.out.size)); clear hb2) | fail)
    go_ret2
    exact ⟨by rw [HQ.out]; rfl, HB2.out⟩
  rw [hk, if_pos rfl] at HQ
  rw [hk] at HKD
  clear hk
  by_cases hq : q = 0
  rotate_left
  · rw [if_neg hq] at HQ
    have tq : (q != 0) = true := by simp [hq]
    clear hq
    go_enter Tryz.func31, Tryz.ntmps31
    go_wp2_with (first | ((with_reducible refine (HKD.out _).mono ?_); rintro e w2 ⟨rfl, hb2⟩; have x2 := cell_blk (blk hb2 (lt_blk HX5.out) HX5.out) 2; have HB2 := Lib.hid (HB5.out.trans (hb2.mono HB5.out.size)); clear hb2) | ((with_reducible refine (HWT.out _ HB2.out).mono ?_); rintro e w3 ⟨rfl, hb3⟩; have HB3 := Lib.hid (HB2.out.trans (hb3.mono HB2.out.size)); clear hb3) | fail)
    go_ret2
    exact ⟨by rw [HQ.out]; rfl, HB3.out⟩
  rw [if_pos hq] at HQ
  have tq : (q != 0) = false := by simp [hq]
  clear hq
  by_cases hn1 : 1048576 < n
  · rw [if_pos hn1] at HQ
    have t1 : decide (1048576 < n) = true := decide_eq_true hn1
    clear hn1
    go_enter Tryz.func31, Tryz.ntmps31
    go_wp2_with (first | ((with_reducible refine (HKD.out _).mono ?_); rintro e w2 ⟨rfl, hb2⟩; have x2 := cell_blk (blk hb2 (lt_blk HX5.out) HX5.out) 2; have HB2 := Lib.hid (HB5.out.trans (hb2.mono HB5.out.size)); clear hb2) | ((with_reducible refine (HWT.out _ HB2.out).mono ?_); rintro e w3 ⟨rfl, hb3⟩; have HB3 := Lib.hid (HB2.out.trans (hb3.mono HB2.out.size)); clear hb3) | fail)
    go_ret2
    exact ⟨by rw [HQ.out]; rfl, HB3.out⟩
  · rw [if_neg hn1] at HQ
    have t1 : decide (1048576 < n) = false := decide_eq_false hn1
    clear hn1
    go_enter Tryz.func31, Tryz.ntmps31
    go_wp2_with (first | ((with_reducible refine (HKD.out _).mono ?_); rintro e w2 ⟨rfl, hb2⟩; have x2 := cell_blk (blk hb2 (lt_blk HX5.out) HX5.out) 2; have HB2 := Lib.hid (HB5.out.trans (hb2.mono HB5.out.size)); clear hb2) | ((with_reducible refine (HWT.out _ HB2.out).mono ?_); rintro e w3 ⟨rfl, hb3⟩; have HB3 := Lib.hid (HB2.out.trans (hb3.mono HB2.out.size)); clear hb3) | fail)
    go_ret2
    exact ⟨by rw [HQ.out]; rfl, HB3.out⟩
end Go.Proofs.YtbigoifpfkdkjaaGreatDoor.Sc
namespace Go.Proofs.YtbigoifpfkdkjaaGreatDoor.Sc
open Go Go.RowKit Go.ChangeShapes Go.WideShapes Go.ChangeAt Go.Deep
set_option maxRecDepth 100000

theorem slice_one {H : Type} {enc : TypeId × Value → H} {P : Program} {w : World} {base : Nat} {spare : Nat → Bool} {held : Bool} {t e : TypeId} {fuel : Nat} {c : Value} {x : DataW H × List MemPlace}
    (ht : P.underlying t = some (.slice e)) (h : DataW.trod enc P w base spare held fuel t [c] = some x) : c.cells.toList = [c] := by
  rcases open_slice ht h with ⟨h1, _⟩ | ⟨a, len, cap, m, n, D, Pl, h1, _⟩
  · obtain rfl : c = .slice none 0 0 := by simpa using h1
    rfl
  · obtain rfl : c = .slice (some a) len cap := by simpa using h1
    rfl
theorem lots_of {H : Type} {enc : TypeId × Value → H} {W : World} {base : Nat} {spare : Nat → Bool} {held : Bool} {fuel : Nat} {c : Value} {x : DataW H × List MemPlace}
    (h : DataW.trod enc Tryz.prog W base spare held fuel 88 [c] = some x) : ∃ l : List Lt, Sl W 2 c (l.map Lt.row) ∧ ∀ h ∈ l, h.fit := by
  have h1 := slice_one Tryz.underlying88 h
  rw [← h1] at h
  obtain ⟨rows, hs, _, hg⟩ := open_sl (sz := 2) (Good := fun cs => ∃ d : { d : Lt // d.fit }, cs = d.1.row) Tryz.underlying88 (by kernel_rfl) h1 h (fun n cs y hy => by
    obtain ⟨hl, m, hg⟩ := row_fields Tryz.underlying107 (by kernel_rfl) (by kernel_rfl) hy
    match cs, hl with
    | [c0, c1], _ =>
      obtain ⟨z0, g0⟩ := hg 0 _ rfl c0 rfl
      obtain ⟨s0, e0, _, f0⟩ := DataW.trod_string Tryz.underlying9 g0
      obtain rfl : c0 = .string s0 := by simpa using e0
      obtain ⟨z1, g1⟩ := hg 1 _ rfl c1 rfl
      obtain ⟨s1, e1, _, f1⟩ := DataW.trod_int Tryz.underlying3 g1
      obtain rfl : c1 = .int .i64 s1 := by simpa using e1
      exact ⟨⟨⟨s0, s1⟩, ⟨f0⟩⟩, rfl⟩) (by decide)
  obtain ⟨l, rfl⟩ := choose_map (f := fun d : { d : Lt // d.fit } => d.1.row) rows hg
  refine ⟨l.map Subtype.val, by simpa [List.map_map, Function.comp_def] using hs, fun h hh => ?_⟩
  obtain ⟨d, _, rfl⟩ := List.mem_map.1 hh
  exact d.2
theorem open_lot {H : Type} {enc : TypeId × Value → H} {W : World} {base : Nat} {v : Value} {d : DataW H} {p : List MemPlace} (hv : Value.okWide Tryz.prog W .any base 107 v)
    (h : DataW.Trod enc Tryz.prog W 0 (fun _ => true) true 107 v d p) : ∃ t : Lt, v = .agg #[.string t.good, .int .i64 t.cnt] ∧ t.fit := by
  obtain ⟨cs, rfl, hsz⟩ := okWide_struct Tryz.underlying107 hv
  obtain ⟨fuel, hf⟩ := h
  obtain ⟨hl, m, hg⟩ := row_fields Tryz.underlying107 (by kernel_rfl) (by kernel_rfl) hf
  obtain ⟨cs⟩ := cs
  simp only [Value.cells] at hl hg
  match cs, hl with
  | [c0, c1], _ =>
    obtain ⟨z0, g0⟩ := hg 0 _ rfl c0 rfl
    obtain ⟨s0, e0, _, f0⟩ := DataW.trod_string Tryz.underlying9 g0
    obtain rfl : c0 = .string s0 := by simpa using e0
    obtain ⟨z1, g1⟩ := hg 1 _ rfl c1 rfl
    obtain ⟨s1, e1, _, f1⟩ := DataW.trod_int Tryz.underlying3 g1
    obtain rfl : c1 = .int .i64 s1 := by simpa using e1
    exact ⟨⟨s0, s1⟩, rfl, ⟨f0⟩⟩
/-- Of a box: its texts are no longer than a text can be. -/
def Bv.fit (x : Bv) : Prop := x.b.mark.size ≤ 9223372036854775807 ∧ ∀ c ∈ x.b.lots, c.fit
theorem row_fields' {H : Type} {enc : TypeId × Value → H} {P : Program} {w : World} {base : Nat} {spare : Nat → Bool} {held : Bool} {e : TypeId} {fs : Array Field} {n : Nat} {cs : List Value} {y : DataW H × List MemPlace}
    (he : P.underlying e = some (.struct fs)) (hone : oneCellFields P fs = true) (hC : P.cellsOf e = fs.size) (h : DataW.trod enc P w base spare held n e cs = some y) :
    cs.length = fs.size ∧ ∃ (m : Nat) (xs : List (DataW H × List MemPlace)), y.1 = .agg (xs.map (·.1)) ∧ ∀ (i : Nat) (f : Field), fs[i]? = some f → ∀ (u : Value), cs[i]? = some u → ∃ z, xs[i]? = some z ∧ DataW.trod enc P w base spare held m f.type [u] = some z := by
  obtain ⟨xs, m, _, hx, hl, hxl, hg⟩ := DataW.trod_struct he h
  rw [hC] at hl
  refine ⟨hl, m, xs, by rw [hx], fun i f hf u hu => ?_⟩
  obtain ⟨ho, hk⟩ := hone_of hone i f hf
  have h1 := hg i f hf
  have hi : i < cs.length := (List.getElem?_eq_some_iff.1 hu).1
  rw [ho, hk, List.drop_eq_getElem_cons hi] at h1
  have hu' : cs[i] = u := (List.getElem?_eq_some_iff.1 hu).2
  rw [hu'] at h1
  have hxi : i < xs.length := by rw [hxl]; omega
  rw [List.getElem?_eq_getElem hxi] at h1 ⊢
  exact ⟨_, rfl, h1⟩
theorem bytesLot : Tryz.prog.bytesOf 107 = 24 := by kernel_rfl
theorem lots_sized {H : Type} {enc : TypeId × Value → H} {W : World} {base : Nat} {spare : Nat → Bool} {held : Bool} {fuel : Nat} {c : Value} {x : DataW H × List MemPlace} {l : List Lt}
    (h : DataW.trod enc Tryz.prog W base spare held fuel 88 [c] = some x) (hs : Sl W 2 c (l.map Lt.row)) (hz : ∀ n ∈ x.1.weights Tryz.prog 88, n ≤ reachBytes) : l.length * 24 ≤ reachBytes := by
  obtain ⟨a0, c0, hsh⟩ := hs.shape
  rw [List.length_map] at hsh
  rcases open_slice Tryz.underlying88 h with ⟨h1, _⟩ | ⟨a, len, cap, m, n, D, Pl, h1, -, -, -, -, hx, -⟩
  · obtain rfl : c = .slice none 0 0 := by simpa using h1
    have : l.length = 0 := by simp only [Value.slice.injEq] at hsh; exact hsh.2.1.symm
    omega
  · obtain rfl : c = .slice (some a) len cap := by simpa using h1
    obtain rfl : len = l.length := by simp only [Value.slice.injEq] at hsh; exact hsh.2.1
    have := hz ((l.length + (m - l.length)) * 24) (by rw [hx]; simp [DataW.weights, Tryz.underlying88, bytesLot])
    have h3 : l.length * 24 ≤ (l.length + (m - l.length)) * 24 := Nat.mul_le_mul_right _ (by omega)
    omega
theorem open_boxs {H : Type} {enc : TypeId × Value → H} {W : World} {base : Nat} {v : Value} {d : DataW H} {p : List MemPlace} (hv : Value.okWide Tryz.prog W .any base 96 v)
    (h : DataW.Trod enc Tryz.prog W 0 (fun _ => true) true 96 v d p) (hz : ∀ n ∈ d.weights Tryz.prog 96, n ≤ reachBytes) :
    ∃ t : Bv, v = .agg #[.string t.b.mark, .int .i64 t.b.kind, t.v] ∧ Sl W 2 t.v (t.b.lots.map Lt.row) ∧ t.fit ∧ t.b.lots.length * 24 ≤ reachBytes := by
  obtain ⟨cs, rfl, hsz⟩ := okWide_struct Tryz.underlying96 hv
  obtain ⟨fuel, hf⟩ := h
  obtain ⟨hl, m, xs, hd, hg⟩ := row_fields' Tryz.underlying96 (by kernel_rfl) (by kernel_rfl) hf
  obtain ⟨cs⟩ := cs
  simp only [Value.cells] at hl hg
  match cs, hl with
  | [c0, c1, c2], _ =>
    obtain ⟨z0, -, g0⟩ := hg 0 _ rfl c0 rfl
    obtain ⟨z1, -, g1⟩ := hg 1 _ rfl c1 rfl
    obtain ⟨z2, k2, g2⟩ := hg 2 _ rfl c2 rfl
    obtain ⟨s0, e0, _, f0⟩ := DataW.trod_string Tryz.underlying9 g0
    obtain rfl : c0 = .string s0 := by simpa using e0
    obtain ⟨s1, e1, _, f1⟩ := DataW.trod_int Tryz.underlying3 g1
    obtain rfl : c1 = .int .i64 s1 := by simpa using e1
    obtain ⟨l, h1, h2⟩ := lots_of g2
    refine ⟨⟨⟨s0, s1, l⟩, c2⟩, rfl, h1, ⟨f0, h2⟩, lots_sized g2 h1 fun n hn => hz n ?_⟩
    simp only at hd
    rw [hd, DataW.weights, Tryz.underlying96]
    exact DataW.weights_mem_each (j := 2) rfl (by rw [List.getElem?_map, k2]; rfl) n hn
theorem open_box {H : Type} {enc : TypeId × Value → H} {W : World} {base : Nat} {v : Value} {d : DataW H} {p : List MemPlace} (hv : Value.okWide Tryz.prog W .any base 96 v)
    (h : DataW.Trod enc Tryz.prog W 0 (fun _ => true) true 96 v d p) : ∃ t : Bv, v = .agg #[.string t.b.mark, .int .i64 t.b.kind, t.v] ∧ Sl W 2 t.v (t.b.lots.map Lt.row) ∧ t.fit := by
  obtain ⟨cs, rfl, hsz⟩ := okWide_struct Tryz.underlying96 hv
  obtain ⟨fuel, hf⟩ := h
  obtain ⟨hl, m, hg⟩ := row_fields Tryz.underlying96 (by kernel_rfl) (by kernel_rfl) hf
  obtain ⟨cs⟩ := cs
  simp only [Value.cells] at hl hg
  match cs, hl with
  | [c0, c1, c2], _ =>
    obtain ⟨z0, g0⟩ := hg 0 _ rfl c0 rfl
    obtain ⟨z1, g1⟩ := hg 1 _ rfl c1 rfl
    obtain ⟨z2, g2⟩ := hg 2 _ rfl c2 rfl
    obtain ⟨s0, e0, _, f0⟩ := DataW.trod_string Tryz.underlying9 g0
    obtain rfl : c0 = .string s0 := by simpa using e0
    obtain ⟨s1, e1, _, f1⟩ := DataW.trod_int Tryz.underlying3 g1
    obtain rfl : c1 = .int .i64 s1 := by simpa using e1
    obtain ⟨l, h1, h2⟩ := lots_of g2
    exact ⟨⟨⟨s0, s1, l⟩, c2⟩, rfl, h1, f0, h2⟩
/-- Any boxes as they lie in memory. -/
def BoxesAt (W : World) (v : Value) (l : List Bv) : Prop := Sl W 3 v (l.map Bv.cells) ∧ ∀ x ∈ l, Sl W 2 x.v (x.b.lots.map Lt.row)
theorem BoxesAt.below {W W' : World} {v : Value} {l : List Bv} (h : BoxesAt W v l) (hb : Below W.heap.size W W') : BoxesAt W' v l := ⟨h.1.below hb (Nat.le_refl _), fun x hx => (h.2 x hx).below hb (Nat.le_refl _)⟩
theorem open_boxes {H : Type} {enc : TypeId × Value → H} {W : World} {base : Nat} {v : Value} {d : DataW H} {p : List MemPlace} (hv : Value.okWide Tryz.prog W .any base 90 v)
    (h : DataW.Trod enc Tryz.prog W 0 (fun _ => true) true 90 v d p) : ∃ l : List Bv, BoxesAt W v l ∧ ∀ x ∈ l, x.fit := by
  obtain ⟨a, len, cap, rfl⟩ := okWide_slice Tryz.underlying90 hv
  obtain ⟨fuel, hf⟩ := h
  obtain ⟨rows, hs, _, hg⟩ := open_sl (sz := 3) (Good := fun cs => ∃ d : { d : Bv // Sl W 2 d.v (d.b.lots.map Lt.row) ∧ d.fit }, cs = d.1.cells) Tryz.underlying90 (by kernel_rfl) rfl hf (fun n cs y hy => by
    obtain ⟨hl, m, hg⟩ := row_fields Tryz.underlying96 (by kernel_rfl) (by kernel_rfl) hy
    match cs, hl with
    | [c0, c1, c2], _ =>
      obtain ⟨z0, g0⟩ := hg 0 _ rfl c0 rfl
      obtain ⟨z1, g1⟩ := hg 1 _ rfl c1 rfl
      obtain ⟨z2, g2⟩ := hg 2 _ rfl c2 rfl
      obtain ⟨s0, e0, _, f0⟩ := DataW.trod_string Tryz.underlying9 g0
      obtain rfl : c0 = .string s0 := by simpa using e0
      obtain ⟨s1, e1, _, f1⟩ := DataW.trod_int Tryz.underlying3 g1
      obtain rfl : c1 = .int .i64 s1 := by simpa using e1
      obtain ⟨l, h1, h2⟩ := lots_of g2
      exact ⟨⟨⟨⟨s0, s1, l⟩, c2⟩, h1, f0, h2⟩, rfl⟩) (by decide)
  obtain ⟨l, rfl⟩ := choose_map (f := fun d : { d : Bv // Sl W 2 d.v (d.b.lots.map Lt.row) ∧ d.fit } => d.1.cells) rows hg
  refine ⟨l.map Subtype.val, ⟨by simpa [List.map_map, Function.comp_def] using hs, fun x hx => ?_⟩, fun x hx => ?_⟩
  · obtain ⟨d, _, rfl⟩ := List.mem_map.1 hx
    exact d.2.1
  · obtain ⟨d, _, rfl⟩ := List.mem_map.1 hx
    exact d.2.2
end Go.Proofs.YtbigoifpfkdkjaaGreatDoor.Sc
namespace Go.Proofs.YtbigoifpfkdkjaaGreatDoor.Sc
open Go Go.RowKit Go.ChangeShapes Go.WideShapes Go.ChangeAt
set_option maxRecDepth 100000

/-- Of boxes: their lots are few, and small. -/
structure BxFew (l : List Bv) : Prop where
  len : l.length ≤ 65
  lots : ∀ x ∈ l, x.b.lots.length ≤ 41
  cnt : ∀ x ∈ l, ∀ y ∈ x.b.lots, y.cnt ≤ 1099511627776
def lotsV (l : List Bv) : List Lt := allLots (l.map Bv.b)
theorem lotsV_snoc {l : List Bv} {k : Nat} (h : k < l.length) : lotsV (l.take (k + 1)) = lotsV (l.take k) ++ l[k].b.lots := by
  rw [List.take_succ_eq_append_getElem h, lotsV, List.map_append, allLots_append, ← lotsV]
  simp [allLots]
theorem lotsV_len : ∀ (l : List Bv), (∀ x ∈ l, x.b.lots.length ≤ 41) → (lotsV l).length ≤ 41 * l.length
  | [], _ => by simp [lotsV, allLots]
  | x :: r, h => by
    have h1 := lotsV_len r fun y hy => h y (List.mem_cons_of_mem _ hy)
    have h2 := h x List.mem_cons_self
    show (x.b.lots ++ lotsV r).length ≤ _
    rw [List.length_append, List.length_cons]
    omega
theorem BxFew.take {l : List Bv} (h : BxFew l) (k : Nat) : (lotsV (l.take k)).length ≤ 2665 := by
  have h1 := lotsV_len (l.take k) fun x hx => h.lots x (List.mem_of_mem_take hx)
  have h2 : (l.take k).length ≤ 65 := by rw [List.length_take]; have := h.len; omega
  omega
theorem BxFew.all {l : List Bv} (h : BxFew l) : ∀ y ∈ lotsV l, y.cnt ≤ 1099511627776 := fun y hy => by
  obtain ⟨b, hb, hyb⟩ := List.mem_flatMap.1 hy
  obtain ⟨x, hx, rfl⟩ := List.mem_map.1 hb
  exact h.cnt x hx y hyb
set_option maxHeartbeats 8000000 in
theorem content_any (l : List Bv) (v : Value) (w : World) (h : BoxesAt w v l) (hf : BxFew l) :
    Calls Tryz.prog 35 #[v] w (RetRow w 107 2 (joinL (lotsV l)).length (ltCells (joinL (lotsV l)))) := by
  obtain ⟨a, c, rfl⟩ : ∃ a c, v = .slice a l.length c := by simpa using h.1.shape
  obtain ⟨i0, hi, hz, hsz, hby⟩ := info_parts infoLt
  have HI := Lib.hid (And.intro hi (And.intro hz (And.intro hsz hby)))
  have HN := Lib.hid h
  have HF := Lib.hid hf
  have hll : l.length ≤ 65 := hf.len
  clear h hf hi hz hsz hby
  go_enter Tryz.func35, Tryz.ntmps35
  go_wp2_with fail
  go_loopw [3, 5, 8] (fun r _ i wr => ∃ k : Nat, k ≤ l.length ∧ i = .int .i64 k ∧ wr.ownsRow w.heap.size 107 2 r (lotsV (l.take k)).length (ltCells (lotsV (l.take k))) ∧ Below w.heap.size w wr) (fun _ _ i _ => l.length - (intOf i).toNat)
  case atStart => exact ⟨0, Nat.zero_le _, rfl, World.ownsRow_nil _ _ _ _, Below.refl _ _⟩
  case round =>
    obtain ⟨k, hk, rfl, hown, hbel⟩ := hrel
    have HBEL := Lib.hid hbel
    by_cases hlt : k < l.length
    rotate_left
    · obtain rfl : k = l.length := by omega
      rw [List.take_of_length_le (Nat.le_refl _)] at hown
      obtain ⟨a9, c9, rfl⟩ := Ord.row_slice hown
      have HJ := Lib.hid (join_any (lotsV l) _ wr (own_lots hown rfl) (by have := HF.out.take l.length; rw [List.take_of_length_le (Nat.le_refl _)] at this; omega) HF.out.all)
      clear hown hbel
      go_wp2_with (first
        | ((with_reducible refine HJ.out.mono ?_); rintro e w1 ⟨v1, rfl, ho1, hb1⟩; have HB1 := Lib.hid hb1; have HO1 := Lib.hid ho1; clear ho1 hb1)
        | fail)
      go_ret
      exact retRow HO1.out HBEL.out.size (HBEL.out.trans (HB1.out.mono HBEL.out.size))
    · obtain ⟨b, off, rfl, -, hb, hc⟩ := HN.out.1.at (i := k) (by simpa using hlt)
      have d0 : wr.cell? ⟨b, off + k * 3, none⟩ = some (.string l[k].b.mark) := (hbel.cell (p := ⟨b, off + k * 3, none⟩) hb).trans (hc k l[k].cells (by simp [hlt]) 0 _ rfl)
      have d1 : wr.cell? ⟨b, off + k * 3 + 1, none⟩ = some (.int .i64 l[k].b.kind) := (hbel.cell (p := ⟨b, off + k * 3 + 1, none⟩) hb).trans (hc k l[k].cells (by simp [hlt]) 1 _ rfl)
      have d2 : wr.cell? ⟨b, off + k * 3 + 2, none⟩ = some l[k].v := (hbel.cell (p := ⟨b, off + k * 3 + 2, none⟩) hb).trans (hc k l[k].cells (by simp [hlt]) 2 _ rfl)
      have hx := (HN.out.2 l[k] (List.getElem_mem hlt)).below hbel (Nat.le_refl _)
      have hxl := HF.out.lots l[k] (List.getElem_mem hlt)
      have hsn := lotsV_snoc hlt
      have htk := HF.out.take k
      generalize l[k] = x at *
      obtain ⟨⟨xm, xk, xl⟩, xv⟩ := x
      simp only at d0 d1 d2 hx hxl hsn
      obtain ⟨ax, cx, rfl⟩ : ∃ a c, xv = .slice a xl.length c := by simpa using hx.shape
      have al := one_below wr (.cells #[.string xm, .int .i64 xk, .slice ax xl.length cx] 96)
      have HSRC : Hid (Src (wr.alloc (.cells #[.string xm, .int .i64 xk, .slice ax xl.length cx] 96)) 2 (.slice ax xl.length cx) xl.length (ltCells xl)) := Lib.hid (src_lots (hx.below al (Nat.le_refl _)))
      have HOWN := Lib.hid (show (wr.alloc (.cells #[.string xm, .int .i64 xk, .slice ax xl.length cx] 96)).ownsRow w.heap.size 107 2 _ (lotsV (l.take k)).length (ltCells (lotsV (l.take k))) from hown.alloc _)
      have HBA := Lib.hid (hbel.trans (al.mono hbel.size))
      have HSN := Lib.hid hsn
      generalize lotsV (l.take k) = P at *
      have HLE : Hid (P.length + xl.length ≤ maxLen ∧ (P.length + xl.length) * 24 ≤ 140737488355328) := Lib.hid (by simp only [maxLen]; omega)
      clear hown hbel hb hc hx hsn al htk hxl
      go_wp2_with (first
        | ((with_reducible refine Any.wpl_cat ?_ ?_ ?_ Tryz.underlying88 HI.out.1 HI.out.2.1 HI.out.2.2.1 HI.out.2.2.2 ?_ (by decide) HOWN.out HSRC.out (ltCells_one _) HLE.out.1 HLE.out.2 HBA.out.size ?_); rfl; rfl; rfl; rfl; intro v2 w2 hown2 hgrow2 hwho2; rw [← ltCells_append, ← List.length_append] at hown2; have HOW2 := Lib.hid hown2; have HB2 := Lib.hid (HBA.out.grown hgrow2 HBA.out.size (fun k hk => (HOWN.out.lt k hk).1)); clear hown2 hgrow2 hwho2; go_frame)
        | fail)
      go_roundw
      case rel => exact ⟨k + 1, by omega, by go_num, by rw [HSN.out]; exact HOW2.out, HB2.out⟩
      case measure => (simp [intOf]) <;> omega
end Go.Proofs.YtbigoifpfkdkjaaGreatDoor.Sc
namespace Go.Proofs.YtbigoifpfkdkjaaGreatDoor.Sc
open Go Go.RowKit Go.ChangeShapes Go.WideShapes Go.ChangeAt
set_option maxRecDepth 100000

/-- Of the boxes of a law: few, and short. -/
structure BoxFew (l : List Bv) : Prop where
  len : l.length ≤ 20
  lots : ∀ x ∈ l, x.b.lots.length ≤ 12 ∧ LtFew x.b.lots ∧ x.b.mark.size ≤ 40
theorem BoxFew.few {l : List Bv} (h : BoxFew l) : BxFew l := ⟨by have := h.len; omega, fun x hx => by have := (h.lots x hx).1; omega, fun x hx => (h.lots x hx).2.1.cnt⟩
end Go.Proofs.YtbigoifpfkdkjaaGreatDoor.Sc
namespace Go.Proofs.YtbigoifpfkdkjaaGreatDoor.Any
open Go Go.RowKit
theorem ok_add_str {P : Program} {dst : Option Tmp} {t t2 ty : TypeId} {pos : String} {after : Array Edge} {gd : Option (Nat × Bool)} {ρ : Operand → Value} {w : World} {R : Value → World → Prop} {x y : Operand} {a b : ByteArray} (hx : ρ x = .string a) (hy : ρ y = .string b) (hn : a.size + b.size ≤ 9223372036854775807) (h : R (.string (a ++ b)) w) :
    OpOk P ⟨dst, .binOp .add t x y t2, ty, pos, after, gd⟩ ρ w R := by
  have hn' : ¬ 9223372036854775807 < a.size + b.size := by omega
  go_simp
  exact h
end Go.Proofs.YtbigoifpfkdkjaaGreatDoor.Any
namespace Go.Proofs.YtbigoifpfkdkjaaGreatDoor.Sc
open Go Go.RowKit Go.ChangeShapes Go.WideShapes Go.ChangeAt
set_option maxRecDepth 100000

theorem dec_len : ∀ (k u : Nat), u < 10 ^ (k + 1) → (Lib.decDigits u).length ≤ k + 1
  | 0, u, h => by
    rw [Lib.decDigits, dif_pos (by omega)]; simp
  | k + 1, u, h => by
    rw [Lib.decDigits]
    split
    · simp
    · have h2 : u / 10 < 10 ^ (k + 1) := by
        rw [Nat.pow_succ] at h
        omega
      have := dec_len k (u / 10) h2
      simp; omega
theorem dec_len20 {u : Nat} (h : u ≤ 9223372036854775808) : (Lib.decDigits u).length ≤ 20 := dec_len 19 u (by omega)
theorem itoa_len20 {n : Int} (h0 : -9223372036854775808 ≤ n) (h1 : n ≤ 9223372036854775807) : (Lib.itoa n).length ≤ 21 := by
  rw [Lib.itoa]
  split
  · have := dec_len20 (u := n.natAbs) (by omega)
    simp only [List.length_cons]; omega
  · have := dec_len20 (u := n.toNat) (by omega)
    omega
theorem preD_step {m : Nat} (h : 10 ≤ m) : preD m = preD (m / 10) ++ [dg (m / 10)] := by
  rw [preD, if_neg (by omega), dec_pre]
def lotT (x : Lt) : List UInt8 := 32 :: (bt x.good ++ 58 :: Lib.itoa x.cnt)
def lotsB (l : List Lt) : List UInt8 := l.flatMap lotT
def lotsT (l : List Lt) : List UInt8 := lotsB l ++ [10]
def sizeT (k : Int) : List UInt8 := if k = 0 then [115, 109, 97, 108, 108] else if k = 1 then [108, 97, 114, 103, 101] else [111, 116, 104, 101, 114]
def boxT (b : Bx) : List UInt8 := bt b.mark ++ 32 :: (sizeT b.kind ++ lotsT b.lots)
def listB (bs : List Bx) : List UInt8 := bs.flatMap boxT
def listT (bs : List Bx) : List UInt8 := listB bs ++ ([97, 108, 108] ++ lotsT (joinL (allLots bs)))
/-- Of a lot: its text is short. -/
structure Lt.short (x : Lt) : Prop where
  name : x.good.size ≤ 60
  lo : -9223372036854775808 ≤ x.cnt
  hi : x.cnt ≤ 9223372036854775807
theorem lotT_len {x : Lt} (h : x.short) : (lotT x).length ≤ 83 := by
  have h1 := itoa_len20 h.lo h.hi
  have h2 := h.name
  simp only [lotT, List.length_cons, List.length_append, bt_len]
  omega
theorem lotsB_len : ∀ (l : List Lt), (∀ x ∈ l, x.short) → (lotsB l).length ≤ 83 * l.length
  | [], _ => by simp [lotsB]
  | x :: r, h => by
    have h1 := lotT_len (h x List.mem_cons_self)
    have h2 := lotsB_len r fun y hy => h y (List.mem_cons_of_mem _ hy)
    show (lotT x ++ lotsB r).length ≤ _
    rw [List.length_append, List.length_cons]
    omega
theorem lotsB_snoc {l : List Lt} {k : Nat} (h : k < l.length) : lotsB (l.take (k + 1)) = lotsB (l.take k) ++ lotT l[k] := by
  rw [List.take_succ_eq_append_getElem h, lotsB, List.flatMap_append, ← lotsB]
  simp
theorem sizeT_len (k : Int) : (sizeT k).length = 5 := by
  unfold sizeT
  split
  · rfl
  · split <;> rfl
theorem boxT_len {b : Bx} (hm : b.mark.size ≤ 40) (hl : b.lots.length ≤ 12) (h : ∀ x ∈ b.lots, x.short) : (boxT b).length ≤ 2000 := by
  have h1 := lotsB_len b.lots h
  have h2 := sizeT_len b.kind
  simp only [boxT, lotsT, List.length_append, List.length_cons, List.length_nil, bt_len]
  omega
theorem listB_len : ∀ (bs : List Bx), (∀ b ∈ bs, (boxT b).length ≤ 2000) → (listB bs).length ≤ 2000 * bs.length
  | [], _ => by simp [listB]
  | x :: r, h => by
    have h1 := h x List.mem_cons_self
    have h2 := listB_len r fun y hy => h y (List.mem_cons_of_mem _ hy)
    show (boxT x ++ listB r).length ≤ _
    rw [List.length_append, List.length_cons]
    omega
theorem listB_snoc {bs : List Bx} {k : Nat} (h : k < bs.length) : listB (bs.take (k + 1)) = listB (bs.take k) ++ boxT bs[k] := by
  rw [List.take_succ_eq_append_getElem h, listB, List.flatMap_append, ← listB]
  simp
theorem lot_txt (L : List UInt8) (xn : ByteArray) (c : Int) : txt L ++ ⟨#[32]⟩ ++ xn ++ ⟨#[58]⟩ ++ txt (Lib.itoa c) = txt (L ++ lotT ⟨xn, c⟩) := by
  conv => lhs; rw [← txt_bt xn]
  rw [show (⟨#[32]⟩ : ByteArray) = txt [32] from rfl, show (⟨#[58]⟩ : ByteArray) = txt [58] from rfl, txt_append, txt_append, txt_append, txt_append, lotT]
  simp
end Go.Proofs.YtbigoifpfkdkjaaGreatDoor.Sc
