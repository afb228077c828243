/- Who is ahead of whom: slices.SortStableFunc at a thing's pledges (at most 20), Rank: by the program. -/
import Derived.Test.YtbigoifpfkdkjaaGreatRel26
import Derived.Test.YtbigoifpfkdkjaaGreatIns26
import Derived.Test.YtbigoifpfkdkjaaGreatLaystopz
namespace Go.Proofs.YtbigoifpfkdkjaaGreat.Sc
open Go Go.RowKit Go.ChangeShapes Go.WideShapes Go.ChangeAt Go.Sort Go.Shelf
set_option maxRecDepth 100000

set_option maxHeartbeats 1000000 in
theorem clonePg_any (l : List Pg) (v : Value) (w : World) (hs : Sl w 6 v (l.map Pg.row)) (hlen : l.length ≤ 1000000) : Calls Tryz.prog 18 #[v] w (RetRow w 27 6 l.length (pgCells l)) := by
  obtain ⟨i0, hi, hz, hsz, hby⟩ := info_parts infoPg
  have HI := Lib.hid (And.intro hi (And.intro hz (And.intro hsz hby)))
  clear hi hz hsz hby
  have hsrc := (hs.below (one_below w (.cells #[] 27)) (Nat.le_refl _)).src (by intro r hr; obtain ⟨d, _, rfl⟩ := List.mem_map.1 hr; rfl) (by decide)
  rw [List.length_map, show (l.map Pg.row).flatten = pgCells l from by simp [pgCells, List.flatMap]] at hsrc
  have HSRC := Lib.hid hsrc
  obtain ⟨a, c, rfl⟩ : ∃ a c, v = .slice a l.length c := by simpa using hs.shape
  have HL : Hid (0 + l.length ≤ maxLen ∧ (0 + l.length) * 72 ≤ 140737488355328) := Lib.hid (by simp only [maxLen]; omega)
  cases a with
  | none =>
    have h0 : l = [] ∧ c = 0 := by
      rcases hs with ⟨h, a, c', hv, hn⟩ | ⟨b, off, cap, hv, _⟩
      · simp only [Value.slice.injEq] at hv
        exact ⟨by simpa using h, by rw [hv.2.2]; exact hn hv.1.symm⟩
      · cases hv
    obtain ⟨rfl, rfl⟩ := h0
    clear hs hsrc HSRC HL
    have hq := fun w : World => Lib.run_eql_slice_nil (P := Tryz.prog) w
    go_enter Tryz.func18, Tryz.ntmps18
    go_wp2
    go_ret
    exact ⟨_, rfl, World.ownsRow_nil _ _ _ _, Below.refl _ _⟩
  | some ad =>
    clear hs hsrc hlen
    generalize l.length = n at *
    have hq : ∀ w : World, (binOp .eql 22 (.slice (some ad) n c) (.slice none 0 0)).run Tryz.prog w = .ok (.bool false) w := fun _ => rfl
    go_enter Tryz.func18, Tryz.ntmps18
    go_wp2_with (first
      | ((refine Any.wpl_append (size := 6) (bytes := 72) (n := 0) (m := n) (base := w.heap.size) (vx := .slice (some ⟨w.heap.size, 0, none⟩) 0 0) (vy := .slice (some ad) n c) ?_ ?_ ?_ Tryz.underlying22 HI.out.1 HI.out.2.1 HI.out.2.2.1 HI.out.2.2.2 ?_ (by decide) (own_empty (Nat.le_refl _)) HSRC.out (pgCells_one _) HL.out.1 HL.out.2 (by simp) ?_); rfl; rfl; rfl; rfl; intro v1 w1 hown1 hgrow1 hwho1)
      | fail)
    go_ret
    refine ⟨v1, rfl, by simpa using hown1, (one_below w (.cells #[] 27)).grown hgrow1 (by simp) (fun k hk => by have : w.heap.size = k := Option.some.inj hk; omega)⟩
theorem nanI_any (a : Int) (w : World) : Calls Tryz.prog 53 #[.int .i64 a] w (fun e w' => e = .returned (.bool false) ∧ w' = w) := by
  have t1 : (a != a) = false := by simp
  go_enter Tryz.func53, Tryz.ntmps53
  go_wp2
  go_ret
  exact ⟨by simp, rfl⟩
def cmpI (a b : Int) : Int := if a < b then -1 else if b < a then 1 else 0
set_option maxHeartbeats 2000000 in
theorem compareI_any (a b : Int) (w : World) : Calls Tryz.prog 34 #[.int .i64 a, .int .i64 b] w (fun e w' => e = .returned (.int .i64 (cmpI a b)) ∧ w' = w) := by
  have HN := Lib.hid (fun a W => nanI_any a W)
  by_cases h1 : a < b
  · have t1 : decide (a < b) = true := decide_eq_true h1
    have HQ : Hid (cmpI a b = -1) := Lib.hid (if_pos h1)
    clear h1
    go_enter Tryz.func34, Tryz.ntmps34
    go_wp2_with (first | ((with_reducible refine (HN.out _ _).mono ?_); rintro e w2 ⟨rfl, rfl⟩) | fail)
    go_ret
    exact ⟨by rw [HQ.out]; rfl, rfl⟩
  · have t1 : decide (a < b) = false := decide_eq_false h1
    by_cases h2 : b < a
    · have t2 : (a == b) = false := by simp; omega
      have t3 : decide (b < a) = true := decide_eq_true h2
      have HQ : Hid (cmpI a b = 1) := Lib.hid (by rw [cmpI, if_neg h1, if_pos h2])
      clear h1 h2
      go_enter Tryz.func34, Tryz.ntmps34
      go_wp2_with (first | ((with_reducible refine (HN.out _ _).mono ?_); rintro e w2 ⟨rfl, rfl⟩) | fail)
      go_ret
      exact ⟨by rw [HQ.out]; rfl, rfl⟩
    · have t2 : decide (b < a) = false := decide_eq_false h2
      have HQ : Hid (cmpI a b = 0) := Lib.hid (by rw [cmpI, if_neg h1, if_neg h2])
      clear h1 h2
      go_enter Tryz.func34, Tryz.ntmps34
      go_wp2_with (first | ((with_reducible refine (HN.out _ _).mono ?_); rintro e w2 ⟨rfl, rfl⟩) | fail)
      go_ret
      exact ⟨by rw [HQ.out]; rfl, rfl⟩
set_option maxHeartbeats 4000000 in
theorem before_any (x y : Pg) (W : World) : Calls Tryz.prog 20 #[.agg x.cells, .agg y.cells] W (fun e w' => e = .returned (.int .i64 (cmpP x y)) ∧ ∃ q os', w' = Go.Sort.grow (W.drewN q) os') := by
  have HC := Lib.hid (fun W => compareI_any x.day y.day W)
  have hq : cmpP x y = if x.held && !y.held then -1 else if y.held && !x.held then 1 else cmpI x.day y.day := rfl
  generalize cmpI x.day y.day = r at HC hq
  have y2 := pgBox_of (blk (one_below (W.alloc (.cells x.cells 27)) (.cells y.cells 27)) (lt_blk (heap_alloc_new W _)) (heap_alloc_new W (.cells x.cells 27)))
  have y3 : PgBox ((W.alloc (.cells x.cells 27)).alloc (.cells y.cells 27)) (W.heap.size + 1) y := by
    have := heap_alloc_new (W.alloc (.cells x.cells 27)) (.cells y.cells 27)
    exact pgBox_of (by simpa using this)
  have HG : Hid (∃ q os', (W.alloc (.cells x.cells 27)).alloc (.cells y.cells 27) = Go.Sort.grow (W.drewN q) os') := Lib.hid ⟨0, _, by rw [alloc_eq_grow, alloc_eq_grow, grow_grow]; rfl⟩
  obtain ⟨xt, xd, xc, xy, xa, xh⟩ := x
  obtain ⟨yt, yd, yc, yy, ya, yh⟩ := y
  obtain ⟨-, -, -, a3, -, a5⟩ := y2
  obtain ⟨-, -, -, b3, -, b5⟩ := y3
  simp only [Pg.cells] at a3 a5 b3 b5 HC HG hq ⊢
  cases xh <;> cases yh
  all_goals
    have HQ := Lib.hid hq
    clear hq
    go_enter Tryz.func20, Tryz.ntmps20
    go_wp2_with (first | ((with_reducible refine (HC.out _).mono ?_); rintro e w2 ⟨rfl, rfl⟩) | fail)
    go_ret
    exact ⟨by rw [HQ.out]; rfl, HG.out⟩
theorem flat_pgs (d : Array Pg) : (flatK Pg.row 6 d).toList = pgCells d.toList := by
  rw [pgCells_flat]
  apply List.ext_getElem?
  intro t
  by_cases ht : t < d.size * 6
  · have e := flat_get (sz := 6) (d.toList.map Pg.row) (pg_rows d.toList) (t / 6) (t % 6) (Nat.mod_lt _ (by decide))
    have e2 : t / 6 * 6 + t % 6 = t := Nat.div_add_mod' t 6
    have h2 : t / 6 < d.size := by omega
    rw [e2] at e
    rw [e, List.getElem?_map, Array.getElem?_toList, Array.getElem?_toList, Array.getElem?_eq_getElem h2]
    have h3 := get_flatK Pg.row 6 d t ht
    have h4 : t < (flatK Pg.row 6 d).size := by simpa using ht
    rw [getElem!_pos _ t h4, getElem!_pos d (t / 6) h2] at h3
    rw [Array.getElem?_eq_getElem h4, h3]
    have h5 : t % 6 < (Pg.row d[t / 6]).length := Nat.mod_lt _ (by decide)
    simp only [Option.map_some, Option.bind_some]
    rw [List.getElem?_eq_getElem h5, getElem!_pos (Pg.row d[t / 6]) (t % 6) h5]
  · rw [List.getElem?_eq_none (by simp; omega), List.getElem?_eq_none]
    rw [flat_len (sz := 6) _ (pg_rows d.toList)]
    simp; omega
theorem own_put {w : World} {B g cap n m sz : Nat} {t : TypeId} {xs : List Value} {F : Array Value} {os : Array Obj} (h : w.ownsRow B t sz (.slice (some ⟨g, 0, none⟩) n cap) n xs) (hl : F.size = xs.length) :
    (Go.Sort.grow (Go.Sort.putRow id (Go.Sort.ahead w m) g 0 F) os).ownsRow B t sz (.slice (some ⟨g, 0, none⟩) n cap) n F.toList ∧ w.grownBy (Go.Sort.grow (Go.Sort.putRow id (Go.Sort.ahead w m) g 0 F) os) (some g) := by
  obtain ⟨h1, h2⟩ := h
  rcases h2 with ⟨h2, _⟩ | ⟨g', cap', cur, hv, hB, hh, h3, h4, h5, h6⟩
  · cases h2
  simp only [Value.slice.injEq, Option.some.injEq, Addr.mk.injEq, and_true, true_and] at hv
  obtain ⟨rfl, rfl⟩ := hv
  have hlt : g < w.heap.size := lt_blk hh
  have hb : (Go.Sort.grow (Go.Sort.putRow id (Go.Sort.ahead w m) g 0 F) os).heap[g]? = some (.cells (Go.Sort.putCells id 0 F cur) t (0, 0)) := by
    rw [Go.Sort.heap_grow_old _ _ (by rw [Go.Sort.size_putRow]; exact hlt)]
    simp only [Go.Sort.putRow, Go.Sort.mapBlock, Go.Sort.heap_ahead, Array.getElem?_modify, if_true, hh, Option.map_some, Go.Sort.onCells]
  have hxl : xs.length ≤ cur.size := by rw [← h6, List.length_take]; simp; omega
  refine ⟨⟨by simp [hl, h1], .inr ⟨g, cap, _, rfl, hB, hb, h3, h4, by simp [Go.Sort.putCells, h5], ?_⟩⟩, rfl, rfl, rfl, by simp, fun k hk hne => ?_⟩
  · apply List.ext_getElem?
    intro k
    rw [List.getElem?_take]
    split
    · rename_i hk
      have hkl : k < F.size := by omega
      have hkc : k < cur.size := by omega
      simp only [Array.getElem?_toList, Go.Sort.putCells, Array.getElem?_mapIdx, Array.getElem?_eq_getElem hkc, Option.map_some]
      rw [if_pos ⟨Nat.zero_le _, by omega⟩, Array.getElem?_eq_getElem hkl]
      simp [hkl]
    · rw [List.getElem?_eq_none (by simp; omega)]
  · rw [Go.Sort.heap_grow_old _ _ (by rw [Go.Sort.size_putRow]; exact hk)]
    have : ¬ g = k := fun e => hne (by rw [e])
    simp only [Go.Sort.putRow, Go.Sort.mapBlock, Go.Sort.heap_ahead, Array.getElem?_modify, this, if_false]
theorem own_holdsP {w : World} {B g cap n : Nat} {t : TypeId} {d : Array Pg} (h : w.ownsRow B t 6 (.slice (some ⟨g, 0, none⟩) n cap) n (pgCells d.toList)) : HoldsK Pg.row 6 w g 0 d ∧ g < w.heap.size := by
  obtain ⟨h1, h2⟩ := h
  rcases h2 with ⟨h2, _⟩ | ⟨g', cap', cur, hv, hB, hh, h3, h4, h5, h6⟩
  · cases h2
  simp only [Value.slice.injEq, Option.some.injEq, Addr.mk.injEq, and_true, true_and] at hv
  obtain ⟨rfl, rfl⟩ := hv
  refine ⟨fun j hj => ⟨?_, free_blk hh _⟩, lt_blk hh⟩
  rw [cell_blk hh, Nat.zero_add]
  have hjl : j < n * 6 := by rw [← h1, ← flat_pgs]; simpa using hj
  have h7 : (cur.toList.take (n * 6))[j]? = (flatK Pg.row 6 d).toList[j]? := by rw [h6, flat_pgs]
  rw [List.getElem?_take, if_pos hjl, Array.getElem?_toList, Array.getElem?_toList, Array.getElem?_eq_getElem hj] at h7
  rw [h7]
  rw [getElem!_pos _ j hj]
  rfl
end Go.Proofs.YtbigoifpfkdkjaaGreat.Sc
