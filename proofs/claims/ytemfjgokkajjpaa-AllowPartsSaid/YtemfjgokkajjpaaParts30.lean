/- AllowParts: for every input the law returns true. -/
import Derived.Test.YtemfjgokkajjpaaPartsA30
namespace Go.Proofs.Ytemfjgokkajjpaa.allowParts
open Go.ChangeShapes Go.WideShapes Go.ChangeAt Go.RowKit Go Sc

def wide (c : Cr) (more : Int) : Cr := (c.withAbove (Any.imin (c.above + more) 1000)).withBelow (Any.imin (c.below + more) 1000)
theorem wide_bnd {c : Cr} {more : Int} (h : Bnd c) (h1 : 0 ≤ more) : Bnd (wide c more) := by
  obtain ⟨q1, q2, q3, q4, q5, q6, q7, q8⟩ := h
  have := Any.imin_le (c.above + more) 1000
  have := Any.imin_le (c.below + more) 1000
  have := Any.imin_cases (c.above + more) 1000
  have := Any.imin_cases (c.below + more) 1000
  refine ⟨q1, q2, ?_, ?_, ?_, ?_, q7, q8⟩ <;> simp only [wide, Cr.withAbove, Cr.withBelow] <;> omega
theorem wide_most {c : Cr} {more : Int} (h : Bnd c) (h1 : 0 ≤ more) : c.most ≤ (wide c more).most := by
  obtain ⟨q1, q2, q3, q4, q5, q6, q7, q8⟩ := h
  have := Any.imin_cases (c.above + more) 1000
  exact more_most q1 (by simp only [wide, Cr.withAbove, Cr.withBelow]; omega)
theorem wide_least {c : Cr} {more : Int} (h : Bnd c) (h1 : 0 ≤ more) : (wide c more).least ≤ c.least := by
  obtain ⟨q1, q2, q3, q4, q5, q6, q7, q8⟩ := h
  have := Any.imin_cases (c.below + more) 1000
  exact more_least q1 (by simp only [wide, Cr.withAbove, Cr.withBelow]; omega)

theorem own_shape {w : World} {B : Nat} {e : TypeId} {size n : Nat} {v : Value} {xs : List Value} (h : w.ownsRow B e size v n xs) : ∃ a c, v = .slice a n c := by
  rcases h.2 with ⟨rfl, rfl⟩ | ⟨g, cap, cur, rfl, _⟩
  · exact ⟨none, 0, rfl⟩
  · exact ⟨_, cap, rfl⟩

/-- What is left. -/
def leftN (c : Cr) (l : List Dr) : Int := if c.most - dsum l < 0 then 0 else c.most - dsum l
theorem left_call (c : Cr) (l : List Dr) (v : Value) (w : World) (h : leftOk c l = true) (hs : Sl w 2 v (l.map Dr.row)) : Calls Try.prog 18 #[.agg c.cells, v] w (Ret w (.tuple #[.int .i64 (leftN c l), .int .i64 0])) := by
  have := Left_any c l v w hs
  unfold RetLeft at this
  rw [h, if_pos rfl, if_pos rfl] at this
  exact this

/-- The plain law, as the walk wants it. -/
structure Told (c d : Cr) (l : List Dr) (day x y : Int) : Prop where
  px : mayCode c l ⟨day, x⟩ = 0
  py : mayCode c (l ++ [⟨day, x⟩]) ⟨day, y⟩ = 0
  pd : mayCode d l ⟨day, x + y⟩ = 0
  l1 : leftOk c (l ++ [⟨day, x + y⟩]) = true
  l2 : leftOk c ((l ++ [⟨day, x⟩]) ++ [⟨day, y⟩]) = true
  s : dsum ((l ++ [⟨day, x⟩]) ++ [⟨day, y⟩]) = dsum (l ++ [⟨day, x + y⟩])
theorem told {c : Cr} {l : List Dr} {day x y more : Int} (hp : c.part = true) (hc : c.bnd = true) (ha : Asked l x y more) (hz : mayCode c l ⟨day, x + y⟩ = 0) : Told c (wide c more) l day x y := by
  obtain ⟨g1, g2, g3, g4, g5, g6, g7⟩ := ha
  have hbd := (bnd_iff c).1 hc
  have hw := wide_bnd hbd g6
  have hm := wide_most hbd g6
  obtain ⟨q1, q2, q3, q4⟩ := (code_iff hp).1 hz
  obtain ⟨r1, r2⟩ := parts_draws g2 g4 g3 g5 g1 q2
  rw [dsum_one] at q4
  simp only at q3 q4
  have hs : dsum ((l ++ [⟨day, x⟩]) ++ [⟨day, y⟩]) = dsum (l ++ [⟨day, x + y⟩]) := by rw [dsum_one, dsum_one, dsum_one]; simp only; omega
  refine ⟨(code_iff hp).2 ⟨hc, r1, q3, ?_⟩, (code_iff hp).2 ⟨hc, r2, q3, ?_⟩, (code_iff (c := wide c more) hp).2 ⟨(bnd_iff _).2 hw, q2, q3, ?_⟩, by simp [leftOk, q2, hc], by rw [leftOk, r2, hc]; rfl, hs⟩
  · rw [dsum_one]; simp only; omega
  · rw [hs, dsum_one]; simp only; omega
  · rw [dsum_one]; simp only; omega

set_option maxRecDepth 100000 in
set_option maxHeartbeats 8000000 in
theorem walk_yes (a0 a1 a2 a3 : Int) (l : List Dr) (v : Value) (x y day more : Int) (w : World) (hsl : Sl w 2 v (l.map Dr.row)) (hask : Asked l x y more) (hc : (mkCr a0 a1 a2 a3 true).bnd = true) :
    Calls Try.prog 6 #[.int .i64 a0, .int .i64 a1, .int .i64 a2, .int .i64 a3, v, .int .i64 x, .int .i64 y, .int .i64 day, .int .i64 more] w (RetB w true) := by
  obtain ⟨a, k, rfl⟩ : ∃ a k, v = .slice a l.length k := by simpa using hsl.shape
  obtain ⟨g1, g2, g3, g4, g5, g6, g7⟩ := hask
  have hl : decide ((40 : Int) < (l.length : Int)) = false := by simp; omega
  have hbd := (bnd_iff _).1 hc
  have HC := Lib.hid (fun w => bounds_any a0 a1 a2 a3 true w)
  have RB := refBounds_any (mkCr a0 a1 a2 a3 true)
  rw [hc] at RB
  have RB := Lib.hid RB
  have hA1 : 0 ≤ a1 := hbd.a1
  have hA2 : a1 ≤ 1000 := hbd.a2
  have hB1 : 0 ≤ a2 := hbd.b1
  have hB2 : a2 ≤ 1000 := hbd.b2
  have hea : (mkCr a0 a1 a2 a3 true).above = a1 := rfl
  have heb : (mkCr a0 a1 a2 a3 true).below = a2 := rfl
  have hpt : (mkCr a0 a1 a2 a3 true).part = true := rfl
  generalize mkCr a0 a1 a2 a3 true = C at *
  have d2 : decide (x < 1) = false := by simp; omega
  have d3 : decide (y < 1) = false := by simp; omega
  have d4 : decide ((549755813888 : Int) < x) = false := by simp; omega
  have d5 : decide ((549755813888 : Int) < y) = false := by simp; omega
  have d6 : decide (more < 0) = false := by simp; omega
  have d7 : decide ((1000 : Int) < more) = false := by simp; omega
  have HG := Lib.hid (show 1 ≤ x ∧ 1 ≤ y ∧ x ≤ 549755813888 ∧ y ≤ 549755813888 ∧ 0 ≤ more ∧ more ≤ 1000 from ⟨g2, g3, g4, g5, g6, g7⟩)
  have HASK := Lib.hid (Asked.mk g1 g2 g3 g4 g5 g6 g7)
  have HSL := Lib.hid hsl
  have HPT := Lib.hid hpt
  have HDE : Hid (((C.withAbove (Any.imin (a1 + more) 1000)).withBelow (Any.imin (a2 + more) 1000)) = wide C more) := Lib.hid (by unfold wide; rw [hea, heb])
  have hxy : x + y ≤ 1099511627776 := by omega
  clear hea heb hpt
  have HBD := Lib.hid hbd
  have HLEN := Lib.hid g1
  have HCC := Lib.hid hc
  clear hsl hbd g1 hc
  go_enter Try.func6, Try.ntmps6
  go_wp2_with fail
  refine (awake_any _).mono ?_
  rintro e w1 ⟨rfl, hb1⟩
  go_wp2_with fail
  refine (HC.out _).mono ?_
  rintro e w2 ⟨rfl, hb⟩
  have hb2 := below_then hb1 hb
  have h0 := heap_alloc_new w2 (.cells C.cells 27)
  go_wp2_with (first | (refine new_cr 19 (.tmp 43) C rfl rfl ?_) | (refine load_cr (.tmp 19) w2.heap.size _ _ rfl rfl h0 ?_) | fail)
  refine (RB.out _).mono ?_
  rintro e w3 ⟨rfl, hb⟩
  have hb3 := below_then hb2 (below_new hb)
  have c0 := blk hb (by simp) h0
  clear hb h0
  have c0' := fun o => (heap_alloc_old w3 o (lt_blk c0)).trans c0
  have hmm1 : -9223372036854775808 ≤ a1 + more ∧ a1 + more ≤ 9223372036854775807 := by omega
  have hmm2 : -9223372036854775808 ≤ a2 + more ∧ a2 + more ≤ 9223372036854775807 := by omega
  clear g4 g5
  go_wp2_with (first | ((with_reducible refine new_cr 20 (.tmp 76) C ?_ ?_ ?_); rfl; rfl) | ((with_reducible refine load_cr (.tmp 19) w2.heap.size _ _ ?_ ?_ c0 ?_); rfl; rfl) | ((with_reducible refine load_cr (.tmp 19) w2.heap.size _ _ ?_ ?_ (c0' _) ?_); rfl; rfl) | ((with_reducible apply Any.wpl_min); rfl; rfl; rfl) | fail)
  rw [HDE.out]
  have hD := heap_alloc_new w3 (.cells (wide C more).cells 27)
  have hC := c0' (.cells (wide C more).cells 27)
  have hbel := hb3.trans ((one_below w3 (.cells (wide C more).cells 27)).mono hb3.size)
  have HDC := Lib.hid ((bnd_iff _).2 (wide_bnd HBD.out g6))
  have hmm := wide_most HBD.out g6
  have hml := wide_least HBD.out g6
  have HTOLD := Lib.hid (fun hz => told (day := day) HPT.out HCC.out HASK.out hz)
  clear c0 c0' hb3 hb2 hb1 hb
  generalize wide C more = D at *
  refine (Most_yes C HCC.out _).mono ?_
  rintro e w4 ⟨rfl, hb⟩
  have hC := blk hb (lt_blk hC) hC
  have hD := blk hb (lt_blk hD) hD
  have hbel := hbel.trans (hb.mono hbel.size)
  clear hb
  go_wp2_with (first | ((with_reducible refine load_cr (.tmp 19) w2.heap.size _ _ ?_ ?_ hC ?_); rfl; rfl) | ((with_reducible refine load_cr (.tmp 20) w3.heap.size _ _ ?_ ?_ hD ?_); rfl; rfl) | fail)
  refine (Most_yes D HDC.out _).mono ?_
  rintro e w5 ⟨rfl, hb⟩
  have hC := blk hb (lt_blk hC) hC
  have hD := blk hb (lt_blk hD) hD
  have hbel := hbel.trans (hb.mono hbel.size)
  clear hb
  go_wp2_with (first | ((with_reducible refine load_cr (.tmp 19) w2.heap.size _ _ ?_ ?_ hC ?_); rfl; rfl) | ((with_reducible refine load_cr (.tmp 20) w3.heap.size _ _ ?_ ?_ hD ?_); rfl; rfl) | fail)
  refine (Least_yes C HCC.out _).mono ?_
  rintro e w6 ⟨rfl, hb⟩
  have hC := blk hb (lt_blk hC) hC
  have hD := blk hb (lt_blk hD) hD
  have hbel := hbel.trans (hb.mono hbel.size)
  clear hb
  go_wp2_with (first | ((with_reducible refine load_cr (.tmp 19) w2.heap.size _ _ ?_ ?_ hC ?_); rfl; rfl) | ((with_reducible refine load_cr (.tmp 20) w3.heap.size _ _ ?_ ?_ hD ?_); rfl; rfl) | fail)
  refine (Least_yes D HDC.out _).mono ?_
  rintro e w7 ⟨rfl, hb⟩
  have hC := blk hb (lt_blk hC) hC
  have hD := blk hb (lt_blk hD) hD
  have hbel := hbel.trans (hb.mono hbel.size)
  clear hb
  have hC := (heap_alloc_old w7 (.cells #[.int .i64 day, .int .i64 (x + y)] 39) (lt_blk hC)).trans hC
  have hD := (heap_alloc_old w7 (.cells #[.int .i64 day, .int .i64 (x + y)] 39) (lt_blk hD)).trans hD
  have hO := heap_alloc_new w7 (.cells #[.int .i64 day, .int .i64 (x + y)] 39)
  have hbel := hbel.alloc (o := .cells #[.int .i64 day, .int .i64 (x + y)] 39) hbel.size
  go_wp2_with (first | ((with_reducible refine load_cr (.tmp 19) w2.heap.size _ _ ?_ ?_ hC ?_); rfl; rfl) | ((with_reducible refine load_cr (.tmp 20) w3.heap.size _ _ ?_ ?_ hD ?_); rfl; rfl) | fail)
  refine (May_any C l ⟨day, x + y⟩ _ _ (HSL.out.below hbel (Nat.le_refl _))).mono ?_
  rintro e w8 ⟨rfl, hb⟩
  have hC := blk hb (lt_blk hC) hC
  have hD := blk hb (lt_blk hD) hD
  have hO := blk hb (lt_blk hO) hO
  have hbel := hbel.trans (hb.mono hbel.size)
  clear hb
  cases hz : (mayCode C l ⟨day, x + y⟩ != 0)
  · have HT := Lib.hid (HTOLD.out (by simpa using hz))
    clear HTOLD
    obtain ⟨i0, hi, hz0, hsz0, hby⟩ := info_parts infoDr
    have hX := heap_alloc_new w8 (.cells #[.int .i64 day, .int .i64 x] 39)
    have hX := (heap_alloc_old _ (.cells #[.int .i64 day, .int .i64 y] 39) (lt_blk hX)).trans hX
    have hY := heap_alloc_new (w8.alloc (.cells #[.int .i64 day, .int .i64 x] 39)) (.cells #[.int .i64 day, .int .i64 y] 39)
    have old2 : ∀ (k : Nat) (o : Obj), w8.heap[k]? = some o → ((w8.alloc (.cells #[.int .i64 day, .int .i64 x] 39)).alloc (.cells #[.int .i64 day, .int .i64 y] 39)).heap[k]? = some o := fun k o h =>
      (heap_alloc_old _ _ (by have := lt_blk h; simp; omega)).trans ((heap_alloc_old _ _ (lt_blk h)).trans h)
    have hC := old2 _ _ hC
    have hD := old2 _ _ hD
    have hO := old2 _ _ hO
    have hbel := (hbel.alloc (o := .cells #[.int .i64 day, .int .i64 x] 39) hbel.size).alloc (o := .cells #[.int .i64 day, .int .i64 y] 39) (by simp; have := hbel.size; omega)
    have HSLW := Lib.hid (HSL.out.below hbel (Nat.le_refl _))
    simp only [World.size_alloc] at hY
    clear old2
    go_wp2_with (first | ((with_reducible refine load_cr (.tmp 19) w2.heap.size _ _ ?_ ?_ hC ?_); rfl; rfl) | ((with_reducible refine load_cr (.tmp 20) w3.heap.size _ _ ?_ ?_ hD ?_); rfl; rfl) | fail)
    generalize (w8.alloc (.cells #[.int .i64 day, .int .i64 x] 39)).alloc (.cells #[.int .i64 day, .int .i64 y] 39) = w9 at *
    obtain ⟨B, hB⟩ : ∃ B, B = w9.heap.size := ⟨_, rfl⟩
    have HB : Hid (B ≤ w9.drew.heap.size) := Lib.hid (by rw [hB]; exact Nat.le_refl _)
    have HB2 : Hid (w9.drew.heap.size ≤ B) := Lib.hid (by rw [hB]; exact Nat.le_refl _)
    clear hB
    refine Any.region_lit (fun
      | 0 => Any.row B 39 2 (0) ([]) []
      | 1 => Any.val (.slice a l.length k)
      | 2 => Any.row B 39 2 (l.length) (drCells (l)) [0]
      | 3 => Any.val (.agg #[.int .i64 day, .int .i64 (x)])
      | 4 => Any.made 39 1 #[.int .i64 day, .int .i64 (x)]
      | 5 => Any.row B 39 2 (l.length + 1) (drCells (l ++ [⟨day, x⟩])) [2]
      | 6 => Any.row B 39 2 (l.length + 1) (drCells (l ++ [⟨day, x⟩])) [5]
      | _ => Any.idle) (by kernel_rfl) (by kernel_rfl) (by kernel_rfl) ?_ ?_ ?_
    · intro i _
      match i with
      | 0 => exact Any.lasts_row _ _ _ _ _ _
      | 1 => exact Any.lasts_val _
      | 2 => exact Any.lasts_row _ _ _ _ _ _
      | 3 => exact Any.lasts_val _
      | 4 => exact Any.lasts_made _ _ _
      | 5 => exact Any.lasts_row _ _ _ _ _ _
      | 6 => exact Any.lasts_row _ _ _ _ _ _
      | n + 7 => exact Any.lasts_idle
    · refine ⟨?_, ?_, ?_, ?_, ?_, ?_, ?_, trivial⟩
      · refine Any.owes_plain rfl fun ρ W hs' hb hc' => ?_
        go_simp
        exact Any.post_new hb (World.ownsRow_made W #[] 0 (Nat.le_trans HB.out hb.size) (by simp [maxLen]) rfl) (one_below _ _) (by intro b hb'; obtain rfl : W.heap.size = b := Option.some.inj hb'; exact Nat.le_refl _)
      · refine Any.owes_plain rfl fun ρ W hs' hb hc' => ?_
        have h4 : ρ (.tmp 4) = .slice a l.length k := hs'.old' 4 (by kernel_rfl)
        exact Any.ok_move (Any.post_val hb rfl h4)
      · refine Any.owes_plain rfl fun ρ W hs' hb hc' => ?_
        have h148 : ρ (.tmp 148) = .slice a l.length k := hs'.new' 148 1 (by kernel_rfl)
        have hown : W.ownsRow B 39 2 (ρ (.tmp 147)) 0 [] := hs'.new' 147 0 (by kernel_rfl)
        have hbase : B ≤ W.heap.size := Nat.le_trans HB.out hb.size
        have hsrc : Src W 2 (ρ (.tmp 148)) (l.length) (drCells (l)) := by
          rw [h148]
          have := ((show Sl w9.drew 2 (.slice a l.length k) (l.map Dr.row) from HSLW.out).below hb (Nat.le_refl _)).src (dr_rows _) (by decide)
          rw [List.length_map, ← drCells_flat] at this
          simpa using this
        refine Any.ok_append_own Try.underlying36 hi hz0 hsz0 hby rfl (by decide) hown hsrc (drCells_one _) (by simp only [maxLen]; have := HLEN.out; omega) (by have := HLEN.out; omega) hbase fun v' w' h1 h2 h3 => ?_
        rw [List.nil_append, Nat.zero_add] at h1
        exact Any.post_take hb h1 h2 rfl ⟨_, _, _, rfl⟩ rfl rfl HB2.out h3 (fun b hb => (hown.lt b hb).1)
      · refine Any.owes_plain rfl fun ρ W hs' hb hc' => ?_
        have h30 : ρ (.tmp 30) = .pointer (some ⟨w8.heap.size, 0, none⟩) := hs'.old' 30 (by kernel_rfl)
        have c0 := cell_blk (blk hb (lt_blk hX) hX) 0
        have c1 := cell_blk (blk hb (lt_blk hX) hX) 1
        simp only [List.getElem?_toArray, List.getElem?_cons_zero, List.getElem?_cons_succ] at c0 c1
        go_simp
        exact Any.post_val hb rfl rfl
      · refine Any.owes_plain rfl fun ρ W hs' hb hc' => ?_
        have h150 : ρ (.tmp 150) = .agg #[.int .i64 day, .int .i64 (x)] := hs'.new' 150 3 (by kernel_rfl)
        go_simp
        exact Any.post_new hb ⟨_, rfl, heap_alloc_new _ _⟩ (one_below _ _) (by intro b hb'; obtain rfl : W.heap.size = b := Option.some.inj hb'; exact Nat.le_refl _)
      · refine Any.owes_plain rfl fun ρ W hs' hb hc' => ?_
        have hown : W.ownsRow B 39 2 (ρ (.tmp 149)) (l.length) (drCells (l)) := hs'.new' 149 2 (by kernel_rfl)
        have hbase : B ≤ W.heap.size := Nat.le_trans HB.out hb.size
        obtain ⟨g, hg, hgb⟩ : ∃ b, ρ (.tmp 151) = .slice (some ⟨b, 0, none⟩) 1 1 ∧ W.heap[b]? = some (.cells #[.int .i64 day, .int .i64 (x)] 39 (0, 0)) := hs'.new' 151 4 (by kernel_rfl)
        have hsrc : Src W 2 (ρ (.tmp 151)) 1 (Dr.row ⟨day, x⟩) := by
          rw [hg]
          exact src_block hgb rfl
        refine Any.ok_append_own Try.underlying36 hi hz0 hsz0 hby rfl (by decide) hown hsrc (by intro u hu; simp [Dr.row] at hu; rcases hu with rfl | rfl <;> rfl) (by simp only [maxLen]; have := HLEN.out; omega) (by have := HLEN.out; omega) hbase fun v' w' h1 h2 h3 => ?_
        rw [show drCells (l) ++ Dr.row ⟨day, x⟩ = drCells (l ++ [⟨day, x⟩]) from by simp [drCells]] at h1
        exact Any.post_take hb h1 h2 rfl ⟨_, _, _, rfl⟩ rfl rfl HB2.out h3 (fun b hb => (hown.lt b hb).1)
      · refine Any.owes_plain rfl fun ρ W hs' hb hc' => ?_
        exact Any.ok_assign (Any.post_pass hb rfl ⟨_, rfl⟩ rfl rfl (hs'.new' 152 5 (by kernel_rfl)))
    · intro vals w' hb hk _
      have hown : w'.ownsRow B 39 2 (vals 6) (l.length + 1) (drCells (l ++ [⟨day, x⟩])) := hk 6 (by kernel_rfl)
      clear hk
      go_simp
      generalize vals 6 = v6 at *
      have hC := blk hb (lt_blk hC) hC
      have hD := blk hb (lt_blk hD) hD
      have hO := blk hb (lt_blk hO) hO
      have hX := blk hb (lt_blk hX) hX
      have hY := blk hb (lt_blk hY) hY
      have hbel := hbel.trans (hb.mono hbel.size)
      have HSLW := Lib.hid (HSL.out.below hbel (Nat.le_refl _))
      have hsl6 := own_draws hown (by simp)
      obtain ⟨a6, k6, rfl⟩ := own_shape hown
      have HSL6 := Lib.hid hsl6
      clear hb hown hsl6 HB HB2
      have hT1 := HT.out.px
      have hT2 := HT.out.py
      have hT3 := HT.out.pd
      have x0 := cell_blk hX 0
      have x1 := cell_blk hX 1
      have y0 := cell_blk hY 0
      have y1 := cell_blk hY 1
      have o0 := cell_blk hO 0
      have o1 := cell_blk hO 1
      simp only [List.getElem?_toArray, List.getElem?_cons_zero, List.getElem?_cons_succ] at x0 x1 y0 y1 o0 o1
      go_wp2_with (first | ((with_reducible refine load_cr (.tmp 19) w2.heap.size _ _ ?_ ?_ hC ?_); rfl; rfl) | ((with_reducible refine load_cr (.tmp 20) w3.heap.size _ _ ?_ ?_ hD ?_); rfl; rfl) | fail)
      refine (May_any C l ⟨day, x⟩ _ _ HSLW.out).mono ?_
      rw [hT1]
      rintro e w11 ⟨rfl, hb⟩
      clear x0 x1 y0 y1 o0 o1
      have hC := blk hb (lt_blk hC) hC
      have hD := blk hb (lt_blk hD) hD
      have hO := blk hb (lt_blk hO) hO
      have hX := blk hb (lt_blk hX) hX
      have hY := blk hb (lt_blk hY) hY
      have hbel := hbel.trans (hb.mono hbel.size)
      have HSL6 := Lib.hid (HSL6.out.below hb (Nat.le_refl _))
      clear hb
      have x0 := cell_blk hX 0
      have x1 := cell_blk hX 1
      have y0 := cell_blk hY 0
      have y1 := cell_blk hY 1
      have o0 := cell_blk hO 0
      have o1 := cell_blk hO 1
      simp only [List.getElem?_toArray, List.getElem?_cons_zero, List.getElem?_cons_succ] at x0 x1 y0 y1 o0 o1
      go_wp2_with (first | ((with_reducible refine load_cr (.tmp 19) w2.heap.size _ _ ?_ ?_ hC ?_); rfl; rfl) | ((with_reducible refine load_cr (.tmp 20) w3.heap.size _ _ ?_ ?_ hD ?_); rfl; rfl) | fail)
      refine (May_any C (l ++ [⟨day, x⟩]) ⟨day, y⟩ _ _ HSL6.out).mono ?_
      rw [hT2]
      rintro e w12 ⟨rfl, hb⟩
      clear x0 x1 y0 y1 o0 o1
      have hC := blk hb (lt_blk hC) hC
      have hD := blk hb (lt_blk hD) hD
      have hO := blk hb (lt_blk hO) hO
      have hX := blk hb (lt_blk hX) hX
      have hY := blk hb (lt_blk hY) hY
      have hbel := hbel.trans (hb.mono hbel.size)
      have HSL6 := Lib.hid (HSL6.out.below hb (Nat.le_refl _))
      have HSLW := Lib.hid (HSL.out.below hbel (Nat.le_refl _))
      clear hb
      have x0 := cell_blk hX 0
      have x1 := cell_blk hX 1
      have y0 := cell_blk hY 0
      have y1 := cell_blk hY 1
      have o0 := cell_blk hO 0
      have o1 := cell_blk hO 1
      simp only [List.getElem?_toArray, List.getElem?_cons_zero, List.getElem?_cons_succ] at x0 x1 y0 y1 o0 o1
      go_wp2_with (first | ((with_reducible refine load_cr (.tmp 19) w2.heap.size _ _ ?_ ?_ hC ?_); rfl; rfl) | ((with_reducible refine load_cr (.tmp 20) w3.heap.size _ _ ?_ ?_ hD ?_); rfl; rfl) | fail)
      refine (May_any D l ⟨day, x + y⟩ _ _ HSLW.out).mono ?_
      rw [hT3]
      rintro e w13 ⟨rfl, hb⟩
      clear x0 x1 y0 y1 o0 o1 hT1 hT2 hT3
      have hC := blk hb (lt_blk hC) hC
      have hD := blk hb (lt_blk hD) hD
      have hO := blk hb (lt_blk hO) hO
      have hX := blk hb (lt_blk hX) hX
      have hY := blk hb (lt_blk hY) hY
      have hbel := hbel.trans (hb.mono hbel.size)
      have HSL6 := Lib.hid (HSL6.out.below hb (Nat.le_refl _))
      have HSLW := Lib.hid (HSL.out.below hbel (Nat.le_refl _))
      clear hb
      go_wp2_with (first | ((with_reducible refine load_cr (.tmp 19) w2.heap.size _ _ ?_ ?_ hC ?_); rfl; rfl) | ((with_reducible refine load_cr (.tmp 20) w3.heap.size _ _ ?_ ?_ hD ?_); rfl; rfl) | fail)
      obtain ⟨B, hB⟩ : ∃ B, B = w13.heap.size := ⟨_, rfl⟩
      have HB : Hid (B ≤ w13.drew.heap.size) := Lib.hid (by rw [hB]; exact Nat.le_refl _)
      have HB2 : Hid (w13.drew.heap.size ≤ B) := Lib.hid (by rw [hB]; exact Nat.le_refl _)
      clear hB
      have HLO := Lib.hid HT.out.l1
      refine Any.region_lit (fun
        | 0 => Any.val (.agg C.cells)
        | 1 => Any.row B 39 2 (0) ([]) []
        | 2 => Any.val (.slice a l.length k)
        | 3 => Any.row B 39 2 (l.length) (drCells (l)) [1]
        | 4 => Any.val (.agg #[.int .i64 day, .int .i64 (x + y)])
        | 5 => Any.made 39 1 #[.int .i64 day, .int .i64 (x + y)]
        | 6 => Any.row B 39 2 (l.length + 1) (drCells (l ++ [⟨day, x + y⟩])) [3]
        | 7 => Any.val (.tuple #[.int .i64 (leftN C (l ++ [⟨day, x + y⟩])), .int .i64 0])
        | 8 => Any.val (.tuple #[.int .i64 (leftN C (l ++ [⟨day, x + y⟩])), .int .i64 0])
        | 9 => Any.val (.int .i64 (leftN C (l ++ [⟨day, x + y⟩])))
        | 10 => Any.val (.int .i64 0)
        | 11 => Any.val (.int .i64 (leftN C (l ++ [⟨day, x + y⟩])))
        | 12 => Any.val (.int .i64 0)
        | _ => Any.idle) (by kernel_rfl) (by kernel_rfl) (by kernel_rfl) ?_ ?_ ?_
      · intro i _
        match i with
        | 0 => exact Any.lasts_val _
        | 1 => exact Any.lasts_row _ _ _ _ _ _
        | 2 => exact Any.lasts_val _
        | 3 => exact Any.lasts_row _ _ _ _ _ _
        | 4 => exact Any.lasts_val _
        | 5 => exact Any.lasts_made _ _ _
        | 6 => exact Any.lasts_row _ _ _ _ _ _
        | 7 => exact Any.lasts_val _
        | 8 => exact Any.lasts_val _
        | 9 => exact Any.lasts_val _
        | 10 => exact Any.lasts_val _
        | 11 => exact Any.lasts_val _
        | 12 => exact Any.lasts_val _
        | n + 13 => exact Any.lasts_idle
      · refine ⟨?_, ?_, ?_, ?_, ?_, ?_, ?_, ?_, ?_, ?_, ?_, ?_, ?_, trivial⟩
        · refine Any.owes_plain rfl fun ρ W hs' hb hc' => ?_
          have h19 : ρ (.tmp 19) = .pointer (some ⟨w2.heap.size, 0, none⟩) := hs'.old' 19 (by kernel_rfl)
          exact ok_load_cr _ C _ h19 (blk hb (lt_blk hC) hC) (Any.post_val hb rfl rfl)
        · refine Any.owes_plain rfl fun ρ W hs' hb hc' => ?_
          go_simp
          exact Any.post_new hb (World.ownsRow_made W #[] 0 (Nat.le_trans HB.out hb.size) (by simp [maxLen]) rfl) (one_below _ _) (by intro b hb'; obtain rfl : W.heap.size = b := Option.some.inj hb'; exact Nat.le_refl _)
        · refine Any.owes_plain rfl fun ρ W hs' hb hc' => ?_
          have h4 : ρ (.tmp 4) = .slice a l.length k := hs'.old' 4 (by kernel_rfl)
          exact Any.ok_move (Any.post_val hb rfl h4)
        · refine Any.owes_plain rfl fun ρ W hs' hb hc' => ?_
          have h175 : ρ (.tmp 175) = .slice a l.length k := hs'.new' 175 2 (by kernel_rfl)
          have hown : W.ownsRow B 39 2 (ρ (.tmp 174)) 0 [] := hs'.new' 174 1 (by kernel_rfl)
          have hbase : B ≤ W.heap.size := Nat.le_trans HB.out hb.size
          have hsrc : Src W 2 (ρ (.tmp 175)) (l.length) (drCells (l)) := by
            rw [h175]
            have := ((show Sl w13.drew 2 (.slice a l.length k) (l.map Dr.row) from HSLW.out).below hb (Nat.le_refl _)).src (dr_rows _) (by decide)
            rw [List.length_map, ← drCells_flat] at this
            simpa using this
          refine Any.ok_append_own Try.underlying36 hi hz0 hsz0 hby rfl (by decide) hown hsrc (drCells_one _) (by simp only [maxLen]; have := HLEN.out; omega) (by have := HLEN.out; omega) hbase fun v' w' h1 h2 h3 => ?_
          rw [List.nil_append, Nat.zero_add] at h1
          exact Any.post_take hb h1 h2 rfl ⟨_, _, _, rfl⟩ rfl rfl HB2.out h3 (fun b hb => (hown.lt b hb).1)
        · refine Any.owes_plain rfl fun ρ W hs' hb hc' => ?_
          have h29 : ρ (.tmp 29) = .pointer (some ⟨w7.heap.size, 0, none⟩) := hs'.old' 29 (by kernel_rfl)
          have c0 := cell_blk (blk hb (lt_blk hO) hO) 0
          have c1 := cell_blk (blk hb (lt_blk hO) hO) 1
          simp only [List.getElem?_toArray, List.getElem?_cons_zero, List.getElem?_cons_succ] at c0 c1
          go_simp
          exact Any.post_val hb rfl rfl
        · refine Any.owes_plain rfl fun ρ W hs' hb hc' => ?_
          have h177 : ρ (.tmp 177) = .agg #[.int .i64 day, .int .i64 (x + y)] := hs'.new' 177 4 (by kernel_rfl)
          go_simp
          exact Any.post_new hb ⟨_, rfl, heap_alloc_new _ _⟩ (one_below _ _) (by intro b hb'; obtain rfl : W.heap.size = b := Option.some.inj hb'; exact Nat.le_refl _)
        · refine Any.owes_plain rfl fun ρ W hs' hb hc' => ?_
          have hown : W.ownsRow B 39 2 (ρ (.tmp 176)) (l.length) (drCells (l)) := hs'.new' 176 3 (by kernel_rfl)
          have hbase : B ≤ W.heap.size := Nat.le_trans HB.out hb.size
          obtain ⟨g, hg, hgb⟩ : ∃ b, ρ (.tmp 178) = .slice (some ⟨b, 0, none⟩) 1 1 ∧ W.heap[b]? = some (.cells #[.int .i64 day, .int .i64 (x + y)] 39 (0, 0)) := hs'.new' 178 5 (by kernel_rfl)
          have hsrc : Src W 2 (ρ (.tmp 178)) 1 (Dr.row ⟨day, x + y⟩) := by
            rw [hg]
            exact src_block hgb rfl
          refine Any.ok_append_own Try.underlying36 hi hz0 hsz0 hby rfl (by decide) hown hsrc (by intro u hu; simp [Dr.row] at hu; rcases hu with rfl | rfl <;> rfl) (by simp only [maxLen]; have := HLEN.out; omega) (by have := HLEN.out; omega) hbase fun v' w' h1 h2 h3 => ?_
          rw [show drCells (l) ++ Dr.row ⟨day, x + y⟩ = drCells (l ++ [⟨day, x + y⟩]) from by simp [drCells]] at h1
          exact Any.post_take hb h1 h2 rfl ⟨_, _, _, rfl⟩ rfl rfl HB2.out h3 (fun b hb => (hown.lt b hb).1)
        · refine Any.owes_plain rfl fun ρ W hs' hb hc' => ?_
          have h173 : ρ (.tmp 173) = .agg C.cells := hs'.new' 173 0 (by kernel_rfl)
          have hf := hs'.func 18
          have hown : W.ownsRow B 39 2 (ρ (.tmp 179)) (l.length + 1) (drCells (l ++ [⟨day, x + y⟩])) := hs'.new' 179 6 (by kernel_rfl)
          go_simp
          exact (left_call C (l ++ [⟨day, x + y⟩]) _ W HLO.out (own_draws hown (by simp))).mono fun e w' ⟨he, hb'⟩ => ⟨_, he, Any.post_vals hb rfl rfl hb'⟩
        · refine Any.owes_plain rfl fun ρ W hs' hb hc' => ?_
          have h180 : ρ (.tmp 180) = .tuple #[.int .i64 (leftN C (l ++ [⟨day, x + y⟩])), .int .i64 0] := hs'.new' 180 7 (by kernel_rfl)
          exact Any.ok_move (Any.post_val hb rfl h180)
        · refine Any.owes_plain rfl fun ρ W hs' hb hc' => ?_
          have h172 : ρ (.tmp 172) = .tuple #[.int .i64 (leftN C (l ++ [⟨day, x + y⟩])), .int .i64 0] := hs'.new' 172 8 (by kernel_rfl)
          go_simp
          exact Any.post_val hb rfl rfl
        · refine Any.owes_plain rfl fun ρ W hs' hb hc' => ?_
          have h172 : ρ (.tmp 172) = .tuple #[.int .i64 (leftN C (l ++ [⟨day, x + y⟩])), .int .i64 0] := hs'.new' 172 8 (by kernel_rfl)
          go_simp
          exact Any.post_val hb rfl rfl
        · refine Any.owes_plain rfl fun ρ W hs' hb hc' => ?_
          have h181 : ρ (.tmp 181) = .int .i64 (leftN C (l ++ [⟨day, x + y⟩])) := hs'.new' 181 9 (by kernel_rfl)
          exact Any.ok_assign (Any.post_val hb rfl h181)
        · refine Any.owes_plain rfl fun ρ W hs' hb hc' => ?_
          have h182 : ρ (.tmp 182) = .int .i64 0 := hs'.new' 182 10 (by kernel_rfl)
          exact Any.ok_assign (Any.post_val hb rfl h182)
      · intro vals w' hb hk _
        have hu1 : vals 11 = .int .i64 (leftN C (l ++ [⟨day, x + y⟩])) := hk 11 (by kernel_rfl)
        have hu2 : vals 12 = .int .i64 0 := hk 12 (by kernel_rfl)
        have hC := blk hb (lt_blk hC) hC
        have hY := blk hb (lt_blk hY) hY
        have hbel := hbel.trans (hb.mono hbel.size)
        have HSL6 := Lib.hid (HSL6.out.below hb (Nat.le_refl _))
        clear hk hb HB HB2
        go_simp
        clear hu1 hu2
        go_wp2_with fail
        obtain ⟨w14, hw14⟩ : ∃ w14, w14 = w' := ⟨_, rfl⟩
        subst hw14
        obtain ⟨B, hB⟩ : ∃ B, B = w14.heap.size := ⟨_, rfl⟩
        have HB : Hid (B ≤ w14.drew.heap.size) := Lib.hid (by rw [hB]; exact Nat.le_refl _)
        have HB2 : Hid (w14.drew.heap.size ≤ B) := Lib.hid (by rw [hB]; exact Nat.le_refl _)
        clear hB
        have HLO := Lib.hid HT.out.l2
        have HS1 := Lib.hid HT.out.s
        obtain ⟨l1, hl1⟩ : ∃ l1, l1 = l ++ [(⟨day, x⟩ : Dr)] := ⟨_, rfl⟩
        have HL1 : Hid (l1.length = l.length + 1) := Lib.hid (by rw [hl1]; simp)
        rw [← hl1] at HLO HS1 HSL6
        clear hl1
        refine Any.region_lit (fun
          | 0 => Any.val (.agg C.cells)
          | 1 => Any.row B 39 2 (0) ([]) []
          | 2 => Any.val (.slice a6 (l.length + 1) k6)
          | 3 => Any.row B 39 2 ((l.length + 1)) (drCells (l1)) [1]
          | 4 => Any.val (.agg #[.int .i64 day, .int .i64 (y)])
          | 5 => Any.made 39 1 #[.int .i64 day, .int .i64 (y)]
          | 6 => Any.row B 39 2 ((l.length + 1) + 1) (drCells (l1 ++ [⟨day, y⟩])) [3]
          | 7 => Any.val (.tuple #[.int .i64 (leftN C (l1 ++ [⟨day, y⟩])), .int .i64 0])
          | 8 => Any.val (.tuple #[.int .i64 (leftN C (l1 ++ [⟨day, y⟩])), .int .i64 0])
          | 9 => Any.val (.int .i64 (leftN C (l1 ++ [⟨day, y⟩])))
          | 10 => Any.val (.int .i64 0)
          | 11 => Any.val (.int .i64 (leftN C (l1 ++ [⟨day, y⟩])))
          | 12 => Any.val (.int .i64 0)
          | _ => Any.idle) (by kernel_rfl) (by kernel_rfl) (by kernel_rfl) ?_ ?_ ?_
        · intro i _
          match i with
          | 0 => exact Any.lasts_val _
          | 1 => exact Any.lasts_row _ _ _ _ _ _
          | 2 => exact Any.lasts_val _
          | 3 => exact Any.lasts_row _ _ _ _ _ _
          | 4 => exact Any.lasts_val _
          | 5 => exact Any.lasts_made _ _ _
          | 6 => exact Any.lasts_row _ _ _ _ _ _
          | 7 => exact Any.lasts_val _
          | 8 => exact Any.lasts_val _
          | 9 => exact Any.lasts_val _
          | 10 => exact Any.lasts_val _
          | 11 => exact Any.lasts_val _
          | 12 => exact Any.lasts_val _
          | n + 13 => exact Any.lasts_idle
        · refine ⟨?_, ?_, ?_, ?_, ?_, ?_, ?_, ?_, ?_, ?_, ?_, ?_, ?_, trivial⟩
          · refine Any.owes_plain rfl fun ρ W hs' hb hc' => ?_
            have h19 : ρ (.tmp 19) = .pointer (some ⟨w2.heap.size, 0, none⟩) := hs'.old' 19 (by kernel_rfl)
            exact ok_load_cr _ C _ h19 (blk hb (lt_blk hC) hC) (Any.post_val hb rfl rfl)
          · refine Any.owes_plain rfl fun ρ W hs' hb hc' => ?_
            go_simp
            exact Any.post_new hb (World.ownsRow_made W #[] 0 (Nat.le_trans HB.out hb.size) (by simp [maxLen]) rfl) (one_below _ _) (by intro b hb'; obtain rfl : W.heap.size = b := Option.some.inj hb'; exact Nat.le_refl _)
          · refine Any.owes_plain rfl fun ρ W hs' hb hc' => ?_
            have h32 : ρ (.tmp 32) = .slice a6 (l.length + 1) k6 := hs'.old' 32 (by kernel_rfl)
            exact Any.ok_move (Any.post_val hb rfl h32)
          · refine Any.owes_plain rfl fun ρ W hs' hb hc' => ?_
            have h186 : ρ (.tmp 186) = .slice a6 (l.length + 1) k6 := hs'.new' 186 2 (by kernel_rfl)
            have hown : W.ownsRow B 39 2 (ρ (.tmp 185)) 0 [] := hs'.new' 185 1 (by kernel_rfl)
            have hbase : B ≤ W.heap.size := Nat.le_trans HB.out hb.size
            have hsrc : Src W 2 (ρ (.tmp 186)) ((l.length + 1)) (drCells (l1)) := by
              rw [h186]
              have := ((show Sl w14.drew 2 (.slice a6 (l.length + 1) k6) (l1.map Dr.row) from HSL6.out).below hb (Nat.le_refl _)).src (dr_rows _) (by decide)
              rw [List.length_map, HL1.out, ← drCells_flat] at this
              simpa using this
            refine Any.ok_append_own Try.underlying36 hi hz0 hsz0 hby rfl (by decide) hown hsrc (drCells_one _) (by simp only [maxLen]; have := HLEN.out; omega) (by have := HLEN.out; omega) hbase fun v' w' h1 h2 h3 => ?_
            rw [List.nil_append, Nat.zero_add] at h1
            exact Any.post_take hb h1 h2 rfl ⟨_, _, _, rfl⟩ rfl rfl HB2.out h3 (fun b hb => (hown.lt b hb).1)
          · refine Any.owes_plain rfl fun ρ W hs' hb hc' => ?_
            have h31 : ρ (.tmp 31) = .pointer (some ⟨w8.heap.size + 1, 0, none⟩) := hs'.old' 31 (by kernel_rfl)
            have c0 := cell_blk (blk hb (lt_blk hY) hY) 0
            have c1 := cell_blk (blk hb (lt_blk hY) hY) 1
            simp only [List.getElem?_toArray, List.getElem?_cons_zero, List.getElem?_cons_succ] at c0 c1
            go_simp
            exact Any.post_val hb rfl rfl
          · refine Any.owes_plain rfl fun ρ W hs' hb hc' => ?_
            have h188 : ρ (.tmp 188) = .agg #[.int .i64 day, .int .i64 (y)] := hs'.new' 188 4 (by kernel_rfl)
            go_simp
            exact Any.post_new hb ⟨_, rfl, heap_alloc_new _ _⟩ (one_below _ _) (by intro b hb'; obtain rfl : W.heap.size = b := Option.some.inj hb'; exact Nat.le_refl _)
          · refine Any.owes_plain rfl fun ρ W hs' hb hc' => ?_
            have hown : W.ownsRow B 39 2 (ρ (.tmp 187)) ((l.length + 1)) (drCells (l1)) := hs'.new' 187 3 (by kernel_rfl)
            have hbase : B ≤ W.heap.size := Nat.le_trans HB.out hb.size
            obtain ⟨g, hg, hgb⟩ : ∃ b, ρ (.tmp 189) = .slice (some ⟨b, 0, none⟩) 1 1 ∧ W.heap[b]? = some (.cells #[.int .i64 day, .int .i64 (y)] 39 (0, 0)) := hs'.new' 189 5 (by kernel_rfl)
            have hsrc : Src W 2 (ρ (.tmp 189)) 1 (Dr.row ⟨day, y⟩) := by
              rw [hg]
              exact src_block hgb rfl
            refine Any.ok_append_own Try.underlying36 hi hz0 hsz0 hby rfl (by decide) hown hsrc (by intro u hu; simp [Dr.row] at hu; rcases hu with rfl | rfl <;> rfl) (by simp only [maxLen]; have := HLEN.out; omega) (by have := HLEN.out; omega) hbase fun v' w' h1 h2 h3 => ?_
            rw [show drCells (l1) ++ Dr.row ⟨day, y⟩ = drCells (l1 ++ [⟨day, y⟩]) from by simp [drCells]] at h1
            exact Any.post_take hb h1 h2 rfl ⟨_, _, _, rfl⟩ rfl rfl HB2.out h3 (fun b hb => (hown.lt b hb).1)
          · refine Any.owes_plain rfl fun ρ W hs' hb hc' => ?_
            have h184 : ρ (.tmp 184) = .agg C.cells := hs'.new' 184 0 (by kernel_rfl)
            have hf := hs'.func 18
            have hown : W.ownsRow B 39 2 (ρ (.tmp 190)) ((l.length + 1) + 1) (drCells (l1 ++ [⟨day, y⟩])) := hs'.new' 190 6 (by kernel_rfl)
            go_simp
            exact (left_call C (l1 ++ [⟨day, y⟩]) _ W HLO.out (own_draws hown (by simp [HL1.out]))).mono fun e w' ⟨he, hb'⟩ => ⟨_, he, Any.post_vals hb rfl rfl hb'⟩
          · refine Any.owes_plain rfl fun ρ W hs' hb hc' => ?_
            have h191 : ρ (.tmp 191) = .tuple #[.int .i64 (leftN C (l1 ++ [⟨day, y⟩])), .int .i64 0] := hs'.new' 191 7 (by kernel_rfl)
            exact Any.ok_move (Any.post_val hb rfl h191)
          · refine Any.owes_plain rfl fun ρ W hs' hb hc' => ?_
            have h183 : ρ (.tmp 183) = .tuple #[.int .i64 (leftN C (l1 ++ [⟨day, y⟩])), .int .i64 0] := hs'.new' 183 8 (by kernel_rfl)
            go_simp
            exact Any.post_val hb rfl rfl
          · refine Any.owes_plain rfl fun ρ W hs' hb hc' => ?_
            have h183 : ρ (.tmp 183) = .tuple #[.int .i64 (leftN C (l1 ++ [⟨day, y⟩])), .int .i64 0] := hs'.new' 183 8 (by kernel_rfl)
            go_simp
            exact Any.post_val hb rfl rfl
          · refine Any.owes_plain rfl fun ρ W hs' hb hc' => ?_
            have h192 : ρ (.tmp 192) = .int .i64 (leftN C (l1 ++ [⟨day, y⟩])) := hs'.new' 192 9 (by kernel_rfl)
            exact Any.ok_assign (Any.post_val hb rfl h192)
          · refine Any.owes_plain rfl fun ρ W hs' hb hc' => ?_
            have h193 : ρ (.tmp 193) = .int .i64 0 := hs'.new' 193 10 (by kernel_rfl)
            exact Any.ok_assign (Any.post_val hb rfl h193)
        · intro vals w' hb hk _
          have hw1 : vals 11 = .int .i64 (leftN C (l1 ++ [⟨day, y⟩])) := hk 11 (by kernel_rfl)
          have hw2 : vals 12 = .int .i64 0 := hk 12 (by kernel_rfl)
          have hbel := hbel.trans (hb.mono hbel.size)
          clear hk
          go_simp
          have hleft : leftN C (l1 ++ [⟨day, y⟩]) = leftN C (l ++ [⟨day, x + y⟩]) := by unfold leftN; rw [HS1.out]
          rw [hleft] at *
          clear HS1 hleft HL1
          go_wp2_with fail
          go_ret
          exact retB (by simp) hbel
  · clear HTOLD
    go_wp2_with fail
    go_ret
    exact retB (by simp) hbel
end Go.Proofs.Ytemfjgokkajjpaa.allowParts
