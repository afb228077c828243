/- Are legs a way; plainly. Legs as arguments. -/
import Derived.Test.YtbmjficiceiekaaDoorSoonPl16
import Derived.Test.YtbmjficiceiekaaDoorOpen16
namespace Go.Proofs.YtbmjficiceiekaaDoor.Sc
open Go Go.RowKit Go.ChangeShapes Go.WideShapes Go.ChangeAt
set_option maxRecDepth 100000

structure Li where
  voy : Int
  lf : Int
  lt : Int
def Li.cells (x : Li) : Array Value := #[.int .i64 x.voy, .int .i64 x.lf, .int .i64 x.lt]
def Li.row (x : Li) : List Value := x.cells.toList
def liCells (l : List Li) : List Value := l.flatMap Li.row
theorem infoLi : (Tryd.prog.info? 37).map (fun i => (i.zero, i.size, i.bytes)) = some (some (.agg #[.int .i64 0, .int .i64 0, .int .i64 0]), 3, 24) := by kernel_rfl
theorem li_one (x : Li) : ∀ u ∈ x.cells.toList, u.oneCell' = true := by
  intro u hu
  simp only [Li.cells, List.mem_cons, List.not_mem_nil, or_false] at hu
  rcases hu with rfl | rfl | rfl <;> rfl
theorem liCells_flat (l : List Li) : liCells l = (l.map Li.row).flatten := by rw [liCells, List.flatMap_def]
theorem li_rows (l : List Li) : ∀ r ∈ l.map Li.row, r.length = 3 := by
  intro r hr
  obtain ⟨b, -, rfl⟩ := List.mem_map.1 hr
  rfl
theorem liCells_append (a b : List Li) : liCells (a ++ b) = liCells a ++ liCells b := by simp [liCells]
theorem own_lis {w : World} {B n : Nat} {v : Value} {l : List Li} (h : w.ownsRow B 37 3 v n (liCells l)) (hn : n = l.length) : Sl w 3 v (l.map Li.row) := by
  rw [liCells_flat] at h
  exact own_sl h (by simpa using hn) (li_rows l)
theorem src_lis {w : World} {v : Value} {l : List Li} (h : Sl w 3 v (l.map Li.row)) : Src w 3 v l.length (liCells l) := by
  have := h.src (li_rows l) (by decide)
  rw [liCells_flat]
  simpa using this
/-- What one in a row reads. -/
def LiAt (w : World) (b o : Nat) (x : Li) : Prop := w.cell? ⟨b, o, none⟩ = some (.int .i64 x.voy) ∧ w.cell? ⟨b, o + 1, none⟩ = some (.int .i64 x.lf) ∧ w.cell? ⟨b, o + 2, none⟩ = some (.int .i64 x.lt)
theorem li_at {w : World} {a : Option Addr} {n c : Nat} {l : List Li} (h : Sl w 3 (.slice a n c) (l.map Li.row)) {k : Nat} (hk : k < l.length) : ∃ b off, a = some ⟨b, off, none⟩ ∧ b < w.heap.size ∧ LiAt w b (off + k * 3) l[k] := by
  obtain ⟨b, off, e, -, hb, hc⟩ := h.at (i := k) (by simpa using hk)
  have hr := hc k l[k].row (by rw [List.getElem?_map, List.getElem?_eq_getElem hk]; rfl)
  exact ⟨b, off, e, hb, hr 0 _ rfl, hr 1 _ rfl, hr 2 _ rfl⟩
theorem LiAt.below {w w' : World} {b o B : Nat} {x : Li} (h : LiAt w b o x) (hb : b < B) (hw : Below B w w') : LiAt w' b o x := by
  obtain ⟨h0, h1, h2⟩ := h
  exact ⟨(hw.cell (p := ⟨b, o, none⟩) hb).trans h0, (hw.cell (p := ⟨b, o + 1, none⟩) hb).trans h1, (hw.cell (p := ⟨b, o + 2, none⟩) hb).trans h2⟩
theorem LiAt.keep {F : Nat → Prop} {w w' : World} {b o : Nat} {x : Li} (h : LiAt w b o x) (hb : b < w.heap.size) (hn : ¬ F b) (hw : Keep F w w') : LiAt w' b o x := by
  obtain ⟨h0, h1, h2⟩ := h
  exact ⟨(hw.cell (o := o) hb hn).trans h0, (hw.cell (o := o + 1) hb hn).trans h1, (hw.cell (o := o + 2) hb hn).trans h2⟩
/-- .. and in a box. -/
theorem li_box {w : World} {b : Nat} {x : Li} {T : TypeId} (h : w.heap[b]? = some (.cells x.cells T (0, 0))) : w.cell? ⟨b, 0, none⟩ = some (.int .i64 x.voy) ∧ w.cell? ⟨b, 1, none⟩ = some (.int .i64 x.lf) ∧ w.cell? ⟨b, 2, none⟩ = some (.int .i64 x.lt) := ⟨cell_blk h 0, cell_blk h 1, cell_blk h 2⟩
def Lg.li (x : Lg) : Li := ⟨x.voy, x.fr, x.to⟩
def Li.lg (x : Li) : Lg := ⟨x.voy.toNat, x.lf.toNat, x.lt.toNat⟩
theorem lg_li (x : Lg) : x.li.lg = x := rfl
theorem lgli_rows (l : List Lg) : l.map Lg.row = (l.map Lg.li).map Li.row := by
  rw [List.map_map]
  rfl
/-- The calls of a leg, if it is one. -/
def legAt (V : List Vm) (x : Li) : Option (Cl × Cl) := if 0 ≤ x.voy ∧ 0 ≤ x.lf ∧ x.lf < x.lt then
    (V[x.voy.toNat]?).bind fun v => (v.calls[x.lf.toNat]?).bind fun c => (v.calls[x.lt.toNat]?).map fun e => (c, e)
  else none
def stepS (V : List Vm) (ch : Int) (st : ByteArray × Int) (x : Li) : Option (ByteArray × Int) := (legAt V x).bind fun q => if q.1.port = st.1 ∧ st.2 ≤ q.1.cut then some (q.2.port, q.2.arr + ch) else none
def goS (V : List Vm) (ch : Int) : List Li → ByteArray × Int → Option (ByteArray × Int)
  | [], st => some st
  | x :: r, st => (stepS V ch st x).bind (goS V ch r)
def endsAt (o : Option (ByteArray × Int)) (tp : ByteArray) : Bool := match o with | some q => decide (q.1 = tp) | none => false
def rightR (V : List Vm) (ls : List Li) (fr tp : ByteArray) (ready ch : Int) : Bool := !decide (fr = tp) && (decide (1 ≤ ls.length) && (decide (ls.length ≤ 8) && endsAt (goS V ch ls (fr, ready)) tp))
theorem goS_append (V : List Vm) (ch : Int) : ∀ (a b : List Li) (st : ByteArray × Int), goS V ch (a ++ b) st = (goS V ch a st).bind (goS V ch b)
  | [], b, st => rfl
  | x :: r, b, st => by
    show (stepS V ch st x).bind (goS V ch (r ++ b)) = ((stepS V ch st x).bind (goS V ch r)).bind (goS V ch b)
    cases stepS V ch st x with
    | none => rfl
    | some s => exact goS_append V ch r b s
theorem legAt_some {V : List Vm} {x : Li} {c e : Cl} (h : legAt V x = some (c, e)) : (0 ≤ x.voy ∧ 0 ≤ x.lf ∧ x.lf < x.lt) ∧ LgOk V x.lg ∧ frC V x.lg = some c ∧ arrC V x.lg = some e := by
  unfold legAt at h
  split at h
  · rename_i h0
    refine ⟨h0, ?_⟩
    rw [Option.bind_eq_some_iff] at h
    obtain ⟨v, hv, h⟩ := h
    rw [Option.bind_eq_some_iff] at h
    obtain ⟨c', hc, h⟩ := h
    rw [Option.map_eq_some_iff] at h
    obtain ⟨e', he, h⟩ := h
    obtain ⟨rfl, rfl⟩ := Prod.mk.inj h
    refine ⟨⟨v, hv, ?_, (List.getElem?_eq_some_iff.1 he).1⟩, ?_, ?_⟩
    · show x.lf.toNat < x.lt.toNat
      omega
    · show (V[x.voy.toNat]?).bind _ = _
      rw [hv]; exact hc
    · show (V[x.voy.toNat]?).bind _ = _
      rw [hv]; exact he
  · cases h
theorem legAt_li {V : List Vm} {x : Lg} {c e : Cl} (hx : LgOk V x) (hc : frC V x = some c) (he : arrC V x = some e) : legAt V x.li = some (c, e) := by
  obtain ⟨v, hv, h1, h2⟩ := hx
  unfold legAt
  have h0 : 0 ≤ x.li.voy ∧ 0 ≤ x.li.lf ∧ x.li.lf < x.li.lt := (show (0 : Int) ≤ x.voy ∧ (0 : Int) ≤ x.fr ∧ (x.fr : Int) < x.to by omega)
  rw [if_pos h0]
  rw [frC, hv, Option.bind_some] at hc
  rw [arrC, hv, Option.bind_some] at he
  show (V[x.voy]?).bind (fun v => (v.calls[x.fr]?).bind fun c => (v.calls[x.to]?).map fun e => (c, e)) = _
  rw [hv, Option.bind_some, hc, Option.bind_some, he]
  rfl
theorem way_goS {V : List Vm} {fr : ByteArray} {ch ready : Int} {ls : List Lg} {p : ByteArray} {d : Int} (h : Way V fr ch ready ls p d) : goS V ch (ls.map Lg.li) (fr, ready) = some (p, d + if ls = [] then 0 else ch) := by
  induction h with
  | here => simp [goS]
  | @leg ls d x c e h1 hx hc he hd ih =>
    rw [List.map_append, goS_append, ih, Option.bind_some]
    show (stepS V ch _ x.li).bind _ = _
    rw [stepS, legAt_li hx hc he, Option.bind_some, if_pos ⟨rfl, hd⟩]
    simp [goS]
theorem goS_way {V : List Vm} {fr : ByteArray} {ch ready : Int} : ∀ (n : Nat) (ls : List Li), ls.length = n → ∀ p r, goS V ch ls (fr, ready) = some (p, r) → ∃ d, Way V fr ch ready (ls.map Li.lg) p d ∧ r = d + (if ls = [] then 0 else ch) ∧ ∀ m x, ls = m ++ [x] → ∃ c e, legAt V x = some (c, e) ∧ e.arr = d
  | 0, ls, hn, p, r, h => by
    obtain rfl := List.eq_nil_of_length_eq_zero hn
    obtain ⟨rfl, rfl⟩ := Prod.mk.inj (Option.some.inj h)
    exact ⟨_, .here, by simp, fun m x h => by simp at h⟩
  | n + 1, ls, hn, p, r, h => by
    have hne : ls ≠ [] := fun e => by rw [e] at hn; cases hn
    obtain ⟨m, x, rfl⟩ : ∃ m x, ls = m ++ [x] := ⟨ls.dropLast, ls.getLast hne, (List.dropLast_concat_getLast hne).symm⟩
    rw [goS_append, Option.bind_eq_some_iff] at h
    obtain ⟨⟨q, rq⟩, h1, h2⟩ := h
    obtain ⟨d, hw, hr, _⟩ := goS_way n m (by simpa using hn) q rq h1
    change (stepS V ch (q, rq) x).bind _ = _ at h2
    rw [Option.bind_eq_some_iff] at h2
    obtain ⟨s, h3, h4⟩ := h2
    obtain rfl : s = (p, r) := Option.some.inj h4
    rw [stepS, Option.bind_eq_some_iff] at h3
    obtain ⟨⟨c, e⟩, h5, h6⟩ := h3
    simp only at h6
    split at h6
    · rename_i h7
      obtain ⟨rfl, rfl⟩ := Prod.mk.inj (Option.some.inj h6)
      obtain ⟨_, hx, hc, he⟩ := legAt_some h5
      refine ⟨e.arr, ?_, by rw [if_neg (by simp)], fun m' x' hm => ?_⟩
      rotate_left
      · obtain ⟨_, h9⟩ := List.append_inj' hm rfl
        obtain rfl := (List.cons.inj h9).1
        exact ⟨c, e, h5, rfl⟩
      rw [List.map_append]
      refine .leg (c := c) (e := e) (by rw [h7.1]; exact hw) hx hc he ?_
      have h8 := h7.2
      rw [hr] at h8
      have : (List.map Li.lg m = []) = (m = []) := by simp
      simp only [this]
      exact h8
    · cases h6
/-- What a right way is. -/
theorem right_way {V : List Vm} {ls : List Li} {fr tp : ByteArray} {ready ch : Int} (h : rightR V ls fr tp ready ch = true) : fr ≠ tp ∧ ls ≠ [] ∧ ls.length ≤ 8 ∧ ∃ d, Way V fr ch ready (ls.map Li.lg) tp d ∧ ∀ m x, ls = m ++ [x] → ∃ c e, legAt V x = some (c, e) ∧ e.arr = d := by
  simp only [rightR, Bool.and_eq_true, Bool.not_eq_true', decide_eq_false_iff_not, decide_eq_true_eq] at h
  obtain ⟨h1, h2, h3, h4⟩ := h
  refine ⟨h1, fun e => by rw [e] at h2; simp at h2, h3, ?_⟩
  unfold endsAt at h4
  cases hg : goS V ch ls (fr, ready) with
  | none => rw [hg] at h4; cases h4
  | some q =>
    obtain ⟨p, r⟩ := q
    rw [hg] at h4
    obtain rfl : p = tp := of_decide_eq_true h4
    obtain ⟨d, h5, _, h6⟩ := goS_way ls.length ls rfl p r hg
    exact ⟨d, h5, h6⟩
theorem best_right {l : List Vm} {fr tp : ByteArray} {ready ch d : Int} {ls : List Lg} (h : bestR l fr tp ready ch = some (d, ls)) : rightR (l.map cleanV) (ls.map Lg.li) fr tp ready (heldN ch) = true := by
  unfold bestR at h
  by_cases hft : fr = tp
  · rw [if_pos hft] at h; cases h
  rw [if_neg hft] at h
  have hw := rounds_way (clean_ok l) fr (heldN ch) ready 8 tp d ls h
  have hlen := (rounds_ok (clean_ok l) fr (heldN ch) ready 8).len tp d ls h
  have hne := ((rounds_ok (clean_ok l) fr (heldN ch) ready 8).day tp d ls h (fun e => hft e.symm)).2
  have h1 : 1 ≤ ls.length := by
    rcases Nat.eq_zero_or_pos ls.length with h0 | h0
    · exact absurd (List.eq_nil_of_length_eq_zero h0) hne
    · exact h0
  simp only [rightR, Bool.and_eq_true, Bool.not_eq_true', decide_eq_false_iff_not, decide_eq_true_eq, List.length_map]
  refine ⟨hft, h1, hlen, ?_⟩
  rw [way_goS hw]
  exact decide_eq_true rfl
/-- None arrives earlier. -/
theorem right_best {l : List Vm} {ls : List Li} {fr tp : ByteArray} {ready ch : Int} (h : rightR (l.map cleanV) ls fr tp ready (heldN ch) = true) {m : List Li} {x : Li} (hne : ls = m ++ [x]) : ∃ c e d ls', legAt (l.map cleanV) x = some (c, e) ∧ bestR l fr tp ready ch = some (d, ls') ∧ (d < e.arr ∨ d = e.arr ∧ ls'.length ≤ ls.length) := by
  obtain ⟨h1, _, h3, d, h4, h5⟩ := right_way h
  obtain ⟨c, e, h6, rfl⟩ := h5 m x hne
  obtain ⟨d', ls', h7, h8⟩ := way_best (clean_up l) (clean_ok l) (held_range ch).1 h4 (fun e => h1 e.symm) (by simpa using h3)
  refine ⟨c, e, d', ls', h6, by rw [bestR, if_neg h1]; exact h7, ?_⟩
  simpa using h8
theorem open_legs {H : Type} {enc : TypeId × Value → H} {W : World} {base : Nat} {v : Value} {d : DataW H} {p : List MemPlace} (hv : Value.okWide Tryd.prog W .any base 26 v)
    (h : DataW.Trod enc Tryd.prog W 0 (fun _ => true) true 26 v d p) : ∃ l : List Li, Sl W 3 v (l.map Li.row) := by
  obtain ⟨a, len, cap, rfl⟩ := okWide_slice Tryd.underlying26 hv
  obtain ⟨fuel, hf⟩ := h
  obtain ⟨rows, hs, _, hg⟩ := open_sl (sz := 3) (Good := fun cs => ∃ d : Li, cs = d.row) Tryd.underlying26 (by kernel_rfl) rfl hf (fun n cs y hy => by
    obtain ⟨hl, m, hg⟩ := row_fields Tryd.underlying37 (by kernel_rfl) (by kernel_rfl) hy
    match cs, hl with
    | [c0, c1, c2], _ =>
      obtain ⟨z0, g0⟩ := hg 0 _ rfl c0 rfl
      obtain ⟨z1, g1⟩ := hg 1 _ rfl c1 rfl
      obtain ⟨z2, g2⟩ := hg 2 _ rfl c2 rfl
      obtain ⟨s0, e0, _, _⟩ := DataW.trod_int Tryd.underlying3 g0
      obtain ⟨s1, e1, _, _⟩ := DataW.trod_int Tryd.underlying3 g1
      obtain ⟨s2, e2, _, _⟩ := DataW.trod_int Tryd.underlying3 g2
      obtain rfl : c0 = .int .i64 s0 := by simpa using e0
      obtain rfl : c1 = .int .i64 s1 := by simpa using e1
      obtain rfl : c2 = .int .i64 s2 := by simpa using e2
      exact ⟨⟨s0, s1, s2⟩, rfl⟩) (by decide)
  obtain ⟨l, rfl⟩ := choose_map (f := Li.row) rows hg
  exact ⟨l, hs⟩
end Go.Proofs.YtbmjficiceiekaaDoor.Sc
