/- General words of my own: what a call returns while old memory stays as it was; slices that are read. No program in sight. -/
import Derived.WalkKit
import Derived.WalkLawsBesides
import Derived.WalkSpells
import Derived.BigQuiet
import Derived.Deep.QuietTactic
import Derived.ProofKit
import Derived.OpenShut
import Derived.Lib.Hide
import Derived.Deep.Slices
import Derived.Deep.Fields
import Derived.ChangeSame
import Derived.Laws.EntriesVeiled
namespace Go.Proofs.YtnbhneeohkfocaaDoor.Sc
open Go Go.RowKit Go.ChangeShapes Go.WideShapes Go.Deep

/-- The call returns v; no old block has changed. -/
def Ret (w : World) (v : Value) (e : Ending) (w' : World) : Prop := e = .returned v ∧ Below w.heap.size w w'

theorem Ret.mk {w w' : World} {v : Value} {e : Ending} (h1 : e = .returned v) (h2 : Below w.heap.size w w') : Ret w v e w' := ⟨h1, h2⟩

theorem ret_eq {v v' : Value} (h : v = v') : Ending.returned v = .returned v' := by rw [h]

theorem ret_int {k : IntKind} {a b : Int} (h : a = b) : Ending.returned (.int k a) = .returned (.int k b) := by rw [h]

theorem wrap_in {x : Int} (h : -9223372036854775808 ≤ x ∧ x ≤ 9223372036854775807) : Value.int .i64 (IntKind.i64.wrap x) = .int .i64 x := by rw [IntWalk.i64_in _ (by omega)]

theorem bcell {W w1 : World} (hb : Below W.heap.size W w1) : (∀ b o, b < W.heap.size → w1.cell? ⟨b, o, none⟩ = W.cell? ⟨b, o, none⟩) ∧ (∀ b o, b < W.heap.size → w1.frozen? ⟨b, o, none⟩ = W.frozen? ⟨b, o, none⟩) :=
  ⟨fun b o h => hb.cell (p := ⟨b, o, none⟩) h, fun b o h => hb.frozen (p := ⟨b, o, none⟩) h⟩

/-- An old block lies on. -/
theorem blk {B : Nat} {W w1 : World} {k : Nat} {o : Obj} (hb : Below B W w1) (hk : k < B) (h : W.heap[k]? = some o) : w1.heap[k]? = some o := (hb.block k hk).trans h
theorem below_new {w w1 : World} {o : Obj} (hb : Below (w.alloc o).heap.size (w.alloc o) w1) : Below w.heap.size w w1 := ((Below.refl _ _).alloc (Nat.le_refl _) _).trans (hb.mono (by simp))
theorem size_new {w w1 : World} {o : Obj} (hb : Below (w.alloc o).heap.size (w.alloc o) w1) : w.heap.size + 1 ≤ w1.heap.size := by have := hb.size; simpa using this
theorem below_then {w w1 w2 : World} (h : Below w.heap.size w w1) (k : Below w1.heap.size w1 w2) : Below w.heap.size w w2 := h.trans (k.mono h.size)
theorem below_drewN {B : Nat} {w w' : World} (h : Below B w w') (n : Nat) : Below B w (w'.drewN n) := ⟨h.os, h.tape, h.output, h.size, h.block⟩
theorem one_below (w : World) (o : Obj) : Below w.heap.size w (w.alloc o) := (Below.refl _ _).alloc (Nat.le_refl _) _

/-- A slice that reads as rows of sz cells each. -/
def Sl (w : World) (sz : Nat) (v : Value) (xs : List (List Value)) : Prop :=
  (xs = [] ∧ ∃ a c, v = .slice a 0 c ∧ (a = none → c = 0)) ∨
  ∃ b off cap, v = .slice (some ⟨b, off, none⟩) xs.length cap ∧ b < w.heap.size ∧ xs.length ≤ cap ∧ cap ≤ maxLen ∧
    ∀ (i : Nat) (r : List Value), xs[i]? = some r → ∀ (j : Nat) (u : Value), r[j]? = some u → w.cell? ⟨b, off + i * sz + j, none⟩ = some u

theorem Sl.below {B : Nat} {w w' : World} {sz : Nat} {v : Value} {xs : List (List Value)} (h : Sl w sz v xs) (hb : Below B w w') (hB : w.heap.size ≤ B) : Sl w' sz v xs := by
  rcases h with h | ⟨b, off, cap, hv, hlt, h1, h2, hc⟩
  · exact .inl h
  · exact .inr ⟨b, off, cap, hv, Nat.lt_of_lt_of_le hlt hb.size, h1, h2, fun i r hr j u hu => (hb.cell (p := ⟨b, off + i * sz + j, none⟩) (Nat.lt_of_lt_of_le hlt hB)).trans (hc i r hr j u hu)⟩

theorem Sl.len_le {w : World} {sz : Nat} {v : Value} {xs : List (List Value)} (h : Sl w sz v xs) : xs.length ≤ maxLen := by
  rcases h with ⟨rfl, _⟩ | ⟨b, off, cap, hv, hlt, h1, h2, hc⟩
  · simp [maxLen]
  · omega
theorem Sl.shape {w : World} {sz : Nat} {v : Value} {xs : List (List Value)} (h : Sl w sz v xs) : ∃ a c, v = .slice a xs.length c := by
  rcases h with ⟨rfl, a, c, rfl, _⟩ | ⟨b, off, cap, hv, hlt, h1, h2, hc⟩
  · exact ⟨a, c, rfl⟩
  · exact ⟨_, cap, hv⟩
theorem Sl.at {w : World} {sz : Nat} {a : Option Addr} {n c : Nat} {xs : List (List Value)} (h : Sl w sz (.slice a n c) xs) {i : Nat} (hi : i < xs.length) :
    ∃ b off, a = some ⟨b, off, none⟩ ∧ n = xs.length ∧ b < w.heap.size ∧ ∀ (i : Nat) (r : List Value), xs[i]? = some r → ∀ (j : Nat) (u : Value), r[j]? = some u → w.cell? ⟨b, off + i * sz + j, none⟩ = some u := by
  rcases h with ⟨rfl, _⟩ | ⟨b, off, cap, hv, hlt, h1, h2, hc⟩
  · simp at hi
  · simp only [Value.slice.injEq] at hv
    exact ⟨b, off, hv.1, hv.2.1, hlt, hc⟩

/-- What is appended: nothing, or so many elements whose cells are these. -/
def Src (w : World) (sz : Nat) (v : Value) (m : Nat) (cs : List Value) : Prop :=
  cs.length = m * sz ∧ ((v = .slice none 0 0 ∧ m = 0) ∨ ∃ ad c, v = .slice (some ad) m c ∧ ∀ (j : Nat) (u : Value), cs[j]? = some u → w.cell? (Addr.add ad j) = some u)

theorem flat_get {sz : Nat} : ∀ (xs : List (List Value)), (∀ r ∈ xs, r.length = sz) → ∀ (i j : Nat), j < sz → xs.flatten[i * sz + j]? = (xs[i]?).bind (·[j]?)
  | [], _, i, j, _ => by simp
  | r :: xs, h, 0, j, hj => by
    have hr : r.length = sz := h r List.mem_cons_self
    simp only [List.flatten_cons, Nat.zero_mul, Nat.zero_add, List.getElem?_cons_zero, Option.bind_some]
    rw [List.getElem?_append_left (by omega)]
  | r :: xs, h, i + 1, j, hj => by
    have hr : r.length = sz := h r List.mem_cons_self
    have ih := flat_get xs (fun r hr => h r (List.mem_cons_of_mem _ hr)) i j hj
    simp only [List.flatten_cons, List.getElem?_cons_succ]
    rw [List.getElem?_append_right (by rw [hr, Nat.add_mul]; omega), ← ih]
    congr 1
    rw [hr, Nat.add_mul]
    omega

theorem flat_len {sz : Nat} : ∀ (xs : List (List Value)), (∀ r ∈ xs, r.length = sz) → xs.flatten.length = xs.length * sz
  | [], _ => by simp
  | r :: xs, h => by
    have ih := flat_len xs (fun r hr => h r (List.mem_cons_of_mem _ hr))
    simp only [List.flatten_cons, List.length_append, List.length_cons, ih, h r List.mem_cons_self, Nat.add_mul]
    omega

theorem addr_add (b off j : Nat) : Addr.add ⟨b, off, none⟩ j = ⟨b, off + j, none⟩ := by
  unfold Addr.add
  split
  · subst_vars; rfl
  · rfl

theorem Sl.src {w : World} {sz : Nat} {v : Value} {xs : List (List Value)} (h : Sl w sz v xs) (hr : ∀ r ∈ xs, r.length = sz) (hsz : 0 < sz) : Src w sz v xs.length xs.flatten := by
  refine ⟨flat_len xs hr, ?_⟩
  rcases h with ⟨rfl, a, c, rfl, hn⟩ | ⟨b, off, cap, rfl, hb, h1, h2, hc⟩
  · cases a with
    | none => exact .inl ⟨by rw [hn rfl], rfl⟩
    | some ad => exact .inr ⟨ad, c, rfl, by simp⟩
  · refine .inr ⟨_, _, rfl, fun j u hu => ?_⟩
    have hj : j = (j / sz) * sz + j % sz := (Nat.div_add_mod' j sz).symm
    rw [hj, flat_get xs hr _ _ (Nat.mod_lt _ hsz)] at hu
    cases hx : xs[j / sz]? with
    | none => rw [hx] at hu; cases hu
    | some r =>
      rw [hx] at hu
      have := hc _ r hx _ u hu
      rw [addr_add, hj]
      rw [Nat.add_assoc] at this
      exact this

/-- A row of the call's own reads as a slice. -/
theorem own_sl {w : World} {B : Nat} {e : TypeId} {sz n : Nat} {v : Value} {xs : List (List Value)} (h : w.ownsRow B e sz v n xs.flatten) (hn : n = xs.length) (hr : ∀ r ∈ xs, r.length = sz) : Sl w sz v xs := by
  subst hn
  obtain ⟨hl, h2⟩ := h
  rcases h2 with ⟨rfl, h0⟩ | ⟨g, cap, cur, rfl, hg, hh, h3, h4, h5, h6⟩
  · exact .inl ⟨List.length_eq_zero_iff.1 h0, none, 0, rfl, fun _ => rfl⟩
  · refine .inr ⟨g, 0, cap, rfl, (Array.getElem?_eq_some_iff.1 hh).1, h3, h4, fun i r hi j u hj => ?_⟩
    have hjs : j < sz := by rw [← hr r (List.mem_of_getElem? hi)]; exact (List.getElem?_eq_some_iff.1 hj).1
    have hf := flat_get xs hr i j hjs
    rw [hi, Option.bind_some, hj, ← h6, List.getElem?_take] at hf
    have hcell : w.cell? ⟨g, 0 + i * sz + j, none⟩ = cur[i * sz + j]? := by simp [World.cell?, hh]
    rw [hcell]
    split at hf
    · simpa using hf
    · cases hf

/-- append to a row of the call's own: the result is a row of the call's own, in the old block or in a new one. -/
theorem run_append_src {P : Program} (w : World) (base : Nat) (t ty e : TypeId) (i : TypeInfo) (z : Value) (size bytes : Nat) (ht : P.underlying t = some (.slice e)) (hi : P.info? e = some i) (hz : i.zero = some z)
    (hsize : i.size = size) (hby : i.bytes = bytes) (hzs : z.cells.size = size) (hsz : 0 < size) (v y : Value) (n m : Nat) (xs news : List Value) (hown : w.ownsRow base e size v n xs) (hy : Src w size y m news)
    (h1 : ∀ u ∈ news, u.oneCell' = true) (h63 : n + m ≤ maxLen) (hbytes : (n + m) * bytes ≤ 140737488355328) (hbase : base ≤ w.heap.size) :
    ∃ v' w', (Builtin.append_ #[t, t] ty #[v, y]).run P w = .ok v' w' ∧ w'.ownsRow base e size v' (n + m) (xs ++ news) ∧ w.grownBy w' v.ownBlock ∧ (∀ b, v'.ownBlock = some b → v.ownBlock = some b ∨ w.heap.size ≤ b) ∧ (v' = .slice none 0 0 ↔ n + m = 0 ∧ v = .slice none 0 0) := by
  obtain ⟨hl, hy⟩ := hy
  rcases hy with ⟨rfl, rfl⟩ | ⟨ad, c, rfl, hc⟩
  · obtain rfl : news = [] := List.eq_nil_of_length_eq_zero (by simpa using hl)
    refine ⟨v, w, run_append_owned_none (P := P) (w := w) base t ty e i size ht hi v n xs hown, by simpa using hown, ⟨rfl, rfl, rfl, Nat.le_refl _, fun _ _ _ => rfl⟩, fun b hb => .inl hb, ?_⟩
    constructor
    · intro h
      refine ⟨?_, h⟩
      rcases hown.2 with ⟨_, h0⟩ | ⟨g, cap, cur, hv, _⟩
      · omega
      · rw [hv] at h; cases h
    · exact fun h => h.2
  · obtain ⟨v', w', hr, h2, h3, h4⟩ := run_append_own (P := P) w base t ty e i z size bytes ht hi hz hsize hby hzs hsz v n xs hown ad m c news hl hc h1 h63 hbytes hbase
    refine ⟨v', w', hr, h2, h3, ?_, ?_⟩
    · subst hsize
      subst hby
      have h63' : n + m ≤ 9223372036854775807 := by simp only [maxLen] at h63; omega
      rcases hown.2 with ⟨rfl, rfl⟩ | ⟨g, cap, cur, rfl, hbg, hg, hnc, hcm, hcs, htake⟩
      · by_cases hm : m = 0
        · have : v' = .slice none 0 0 := h4.2 ⟨rfl, hm⟩
          subst this
          intro b hb
          cases hb
        · have hr' := run_append_nil (P := P) w t ty e i z ht hi hz ad m c news hl hc (by omega) (by omega) (by have hb := hbytes; simp only [Nat.zero_add] at hb; omega)
          rw [hr] at hr'
          simp only [Result.ok.injEq] at hr'
          obtain ⟨rfl, _⟩ := hr'
          intro b hb
          obtain rfl : w.heap.size = b := Option.some.inj hb
          exact .inr (Nat.le_refl _)
      · by_cases hroom : n + m ≤ cap
        · have hfit : n * i.size + news.length ≤ cur.size := by rw [hl, hcs, ← Nat.add_mul]; exact Nat.mul_le_mul_right _ hroom
          have hr' := run_append_room (P := P) w t ty e i ht hi g n cap cur hg ad m c news hl hc h1 hroom hfit
          rw [hr] at hr'
          simp only [Result.ok.injEq] at hr'
          obtain ⟨rfl, _⟩ := hr'
          exact fun b hb => .inl hb
        · have holds : ∀ j u, xs[j]? = some u → w.cell? ((⟨g, 0, none⟩ : Addr).add j) = some u := hown.cells (g := g) rfl
          have hr' := run_append_grow (P := P) w t ty e i z ht hi hz ⟨g, 0, none⟩ n cap xs hown.1 holds ad m c news hl hc (by omega) (by omega) (growslice_fits (by omega) hbytes)
          rw [hr] at hr'
          simp only [Result.ok.injEq] at hr'
          obtain ⟨rfl, _⟩ := hr'
          intro b hb
          obtain rfl : w.heap.size = b := Option.some.inj hb
          exact .inr (Nat.le_refl _)
    · rw [h4]
      constructor
      · rintro ⟨rfl, rfl⟩
        rcases hown.2 with ⟨_, h0⟩ | ⟨g, cap, cur, hv, _⟩
        · exact ⟨by omega, rfl⟩
        · cases hv
      · rintro ⟨h5, h6⟩
        exact ⟨h6, by omega⟩

theorem src_block {w : World} {b sz m c : Nat} {cs : Array Value} {e : TypeId} {fr : Nat × Nat} (h : w.heap[b]? = some (.cells cs e fr)) (hs : cs.size = m * sz) : Src w sz (.slice (some ⟨b, 0, none⟩) m c) m cs.toList := by
  refine ⟨by simpa using hs, .inr ⟨_, _, rfl, fun j u hu => ?_⟩⟩
  rw [addr_add, Nat.zero_add]
  simp only [World.cell?, h]
  simpa using hu
theorem ownsRow_base {w : World} {B B' : Nat} {e : TypeId} {size n : Nat} {v : Value} {xs : List Value} (h : w.ownsRow B e size v n xs) (hB : B' ≤ B) : w.ownsRow B' e size v n xs := by
  obtain ⟨h1, h2⟩ := h
  refine ⟨h1, ?_⟩
  rcases h2 with h2 | ⟨g, cap, cur, rfl, hg, r⟩
  · exact .inl h2
  · exact .inr ⟨g, cap, cur, rfl, Nat.le_trans hB hg, r⟩
theorem cell_new (w : World) (cs : Array Value) (t : TypeId) (j : Nat) : (w.alloc (.cells cs t)).cell? ⟨w.heap.size, j, none⟩ = cs[j]? := World.cell?_alloc_at _ _ _ _ rfl

/-- The call returns a row of its own; no old block has changed. -/
def RetRow (w : World) (e : TypeId) (sz n : Nat) (xs : List Value) (en : Ending) (w' : World) : Prop := ∃ v, en = .returned v ∧ w'.ownsRow w.heap.size e sz v n xs ∧ Below w.heap.size w w'
theorem retRow {w w' : World} {e : TypeId} {sz n : Nat} {xs : List Value} {v : Value} {B : Nat} (h : w'.ownsRow B e sz v n xs) (hB : w.heap.size ≤ B) (hb : Below w.heap.size w w') : RetRow w e sz n xs (.returned v) w' := ⟨v, rfl, ownsRow_base h hB, hb⟩

theorem choose_map {α β : Type} {f : α → β} : ∀ (ys : List β), (∀ y ∈ ys, ∃ x, y = f x) → ∃ xs : List α, ys = xs.map f
  | [], _ => ⟨[], rfl⟩
  | y :: ys, h => by
    obtain ⟨x, rfl⟩ := h y List.mem_cons_self
    obtain ⟨xs, rfl⟩ := choose_map ys (fun y hy => h y (List.mem_cons_of_mem _ hy))
    exact ⟨x :: xs, rfl⟩

/-- An argument that is a slice: its rows; of each what its reading says. -/
theorem open_sl {H : Type} {enc : TypeId × Value → H} {P : Program} {w : World} {base : Nat} {spare : Nat → Bool} {held : Bool} {t e : TypeId} {fuel sz : Nat} {v : Value} {x : DataW H × List MemPlace} {Good : List Value → Prop}
    (ht : P.underlying t = some (.slice e)) (hC : P.cellsOf e = sz) (hv : v.cells.toList = [v]) (h : DataW.trod enc P w base spare held fuel t v.cells.toList = some x)
    (hgood : ∀ n cs y, DataW.trod enc P w base spare held n e cs = some y → Good cs) (hsz : 0 < sz) :
    ∃ rows : List (List Value), Sl w sz v rows ∧ (∀ r ∈ rows, r.length = sz) ∧ ∀ r ∈ rows, Good r := by
  subst hC
  rw [hv] at h
  rcases open_slice ht h with ⟨h1, _⟩ | ⟨a, len, cap, m, n, D, Pl, h1, hb, hl, hm, hmm, _, hi⟩
  · obtain rfl : v = .slice none 0 0 := by simpa using h1
    exact ⟨[], .inl ⟨rfl, none, 0, rfl, fun _ => rfl⟩, by simp, by simp⟩
  · obtain rfl : v = .slice (some a) len cap := by simpa using h1
    have hlm : len ≤ m := by rw [hmm]; split <;> omega
    by_cases h0 : len = 0
    · subst h0
      exact ⟨[], .inl ⟨rfl, some a, cap, rfl, fun h => by cases h⟩, by simp, by simp⟩
    · obtain ⟨R, hR⟩ := choose_lt (n := len) (p := fun i (cs : List Value) => w.cells? base (a.add (i * P.cellsOf e)) (P.cellsOf e) = some cs ∧ Good cs) (fun i hil => by
        obtain ⟨cs', h2, h3⟩ := hi i (by omega)
        exact ⟨cs', h2, hgood n cs' _ h3⟩)
      have hlenR : ∀ i, i < len → (R i).length = P.cellsOf e := fun i hil => (World.cells?_some (hR i hil).1).2.1
      have hcell0 := (World.cells?_some (hR 0 (by omega)).1).2.2 0 hsz
      rw [Nat.zero_mul, Go.Deep.add_add] at hcell0
      have ha : Addr.add a (0 + 0) = a := by simp [Addr.add]
      rw [ha] at hcell0
      have hsome : (R 0)[0]? = some ((R 0)[0]'(by rw [hlenR 0 (by omega)]; exact hsz)) := List.getElem?_eq_getElem _
      rw [hsome] at hcell0
      obtain ⟨b, off, spot⟩ := a
      have hspot : spot = none := by
        cases spot with
        | none => rfl
        | some q =>
          exfalso
          unfold World.cell? at hcell0
          split at hcell0 <;> simp at hcell0
      subst hspot
      have hlt := World.block_lt_of_cell? w _ hcell0
      refine ⟨(List.range len).map R, .inr ⟨b, off, cap, by simp, hlt, by simpa using hl, hm, fun i r hr j u hu => ?_⟩, fun r hr => ?_, fun r hr => ?_⟩
      · have hil : i < len := by
          have := (List.getElem?_eq_some_iff.1 hr).1
          simpa using this
        obtain rfl : R i = r := by simpa [hil] using hr
        have hjl : j < P.cellsOf e := by rw [← hlenR i hil]; exact (List.getElem?_eq_some_iff.1 hu).1
        have := (World.cells?_some (hR i hil).1).2.2 j hjl
        rw [Go.Deep.add_add, addr_add, hu, ← Nat.add_assoc] at this
        exact this
      · obtain ⟨i, hi', rfl⟩ := List.mem_map.1 hr
        exact hlenR i (List.mem_range.1 hi')
      · obtain ⟨i, hi', rfl⟩ := List.mem_map.1 hr
        exact (hR i (List.mem_range.1 hi')).2

/-- A struct of fields of one cell each: each field's own reading. -/
theorem row_fields {H : Type} {enc : TypeId × Value → H} {P : Program} {w : World} {base : Nat} {spare : Nat → Bool} {held : Bool} {e : TypeId} {fs : Array Field} {n : Nat} {cs : List Value} {y : DataW H × List MemPlace}
    (he : P.underlying e = some (.struct fs)) (hone : oneCellFields P fs = true) (hC : P.cellsOf e = fs.size) (h : DataW.trod enc P w base spare held n e cs = some y) :
    cs.length = fs.size ∧ ∃ m, ∀ (i : Nat) (f : Field), fs[i]? = some f → ∀ (u : Value), cs[i]? = some u → ∃ z, DataW.trod enc P w base spare held m f.type [u] = some z := by
  obtain ⟨xs, m, _, _, hl, hxl, hg⟩ := DataW.trod_struct he h
  rw [hC] at hl
  refine ⟨hl, m, fun i f hf u hu => ?_⟩
  obtain ⟨ho, hk⟩ := hone_of hone i f hf
  have h1 := hg i f hf
  have hi : i < cs.length := (List.getElem?_eq_some_iff.1 hu).1
  rw [ho, hk, List.drop_eq_getElem_cons hi] at h1
  have hu' : cs[i] = u := (List.getElem?_eq_some_iff.1 hu).2
  rw [hu'] at h1
  have hxi : i < xs.length := by rw [hxl]; omega
  rw [List.getElem?_eq_getElem hxi] at h1
  exact ⟨_, h1⟩

theorem cell_blk {w : World} {b : Nat} {cs : Array Value} {t : TypeId} {fr : Nat × Nat} (h : w.heap[b]? = some (.cells cs t fr)) (j : Nat) : w.cell? ⟨b, j, none⟩ = cs[j]? := by simp [World.cell?, h]
theorem free_blk {w : World} {b : Nat} {cs : Array Value} {t : TypeId} (h : w.heap[b]? = some (.cells cs t (0, 0))) (j : Nat) : w.frozen? ⟨b, j, none⟩ = false := by simp [World.frozen?, h]
theorem lt_blk {w : World} {b : Nat} {o : Obj} (h : w.heap[b]? = some o) : b < w.heap.size := (Array.getElem?_eq_some_iff.1 h).1
theorem grown_of_below {w w' : World} (h : Below w.heap.size w w') (r : Option Nat) : w.grownBy w' r := ⟨h.os, h.tape, h.output, h.size, fun k hk _ => h.block k hk⟩
theorem grown_then {w w1 w2 : World} {r : Option Nat} (h : w.grownBy w1 r) (k : w1.grownBy w2 r) : w.grownBy w2 r :=
  ⟨k.os.trans h.os, k.tape.trans h.tape, k.output.trans h.output, Nat.le_trans h.size k.size, fun i hi hne => (k.block i (Nat.lt_of_lt_of_le hi h.size) hne).trans (h.block i hi hne)⟩
end Go.Proofs.YtnbhneeohkfocaaDoor.Sc
