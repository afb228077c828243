/- slices.SortStableFunc at fewer than 20 lots, with the closure of pack.order; order: by the program. -/
import Derived.Test.YtbigoifpfkdkjaaGreatDoorTd30
import Derived.Test.YtbigoifpfkdkjaaGreatDoorTd32
import Derived.Test.YtbigoifpfkdkjaaGreatDoorTd37
import Derived.Test.YtbigoifpfkdkjaaGreatDoorTd01
import Derived.Test.YtbigoifpfkdkjaaGreatDoorTd34
import Derived.Shelf.SlSortCmp.InsertionK
namespace Go.Proofs.YtbigoifpfkdkjaaGreatDoor.Sc
open Go Go.RowKit Go.ChangeShapes Go.WideShapes Go.ChangeAt Go.Sort Go.Shelf
set_option maxRecDepth 100000

theorem nanI_any (a : Int) (w : World) : Calls Tryz.prog 171 #[.int .i64 a] w (fun e w' => e = .returned (.bool false) ∧ w' = w) := by
  have t1 : (a != a) = false := by simp
  go_enter Tryz.func171, Tryz.ntmps171
  go_wp2
  go_ret
  exact ⟨by simp, rfl⟩
def cmpI (a b : Int) : Int := if a < b then -1 else if b < a then 1 else 0
set_option maxHeartbeats 2000000 in
theorem compareI_any (a b : Int) (w : World) : Calls Tryz.prog 146 #[.int .i64 a, .int .i64 b] w (fun e w' => e = .returned (.int .i64 (cmpI a b)) ∧ w' = w) := by
  have HN := Lib.hid (fun a W => nanI_any a W)
  by_cases h1 : a < b
  · have t1 : decide (a < b) = true := decide_eq_true h1
    have HQ : Hid (cmpI a b = -1) := Lib.hid (if_pos h1)
    clear h1
    go_enter Tryz.func146, Tryz.ntmps146
    go_wp2_with (first | ((with_reducible refine (HN.out _ _).mono ?_); rintro e w2 ⟨rfl, rfl⟩) | fail)
    go_ret
    exact ⟨by rw [HQ.out]; rfl, rfl⟩
  · have t1 : decide (a < b) = false := decide_eq_false h1
    by_cases h2 : b < a
    · have t2 : (a == b) = false := by simp; omega
      have t3 : decide (b < a) = true := decide_eq_true h2
      have HQ : Hid (cmpI a b = 1) := Lib.hid (by rw [cmpI, if_neg h1, if_pos h2])
      clear h1 h2
      go_enter Tryz.func146, Tryz.ntmps146
      go_wp2_with (first | ((with_reducible refine (HN.out _ _).mono ?_); rintro e w2 ⟨rfl, rfl⟩) | fail)
      go_ret
      exact ⟨by rw [HQ.out]; rfl, rfl⟩
    · have t2 : decide (b < a) = false := decide_eq_false h2
      have HQ : Hid (cmpI a b = 0) := Lib.hid (by rw [cmpI, if_neg h1, if_neg h2])
      clear h1 h2
      go_enter Tryz.func146, Tryz.ntmps146
      go_wp2_with (first | ((with_reducible refine (HN.out _ _).mono ?_); rintro e w2 ⟨rfl, rfl⟩) | fail)
      go_ret
      exact ⟨by rw [HQ.out]; rfl, rfl⟩
def gdOf (l : List Gd) (n : ByteArray) : Gd := (gOf l n).getD ⟨⟨#[]⟩, 0, 0, 0⟩
set_option maxHeartbeats 2000000 in
theorem getG_any (l : List Gd) (bt bm : Nat) (n : ByteArray) (w : World) (h : Tab w bt bm l) (hn : (codes l).Nodup) :
    Calls Tryz.prog 144 #[.pointer (some ⟨bt, 0, none⟩), .string n] w (fun e w' => e = .returned (.tuple #[(gdOf l n).val, .bool (gOf l n).isSome]) ∧ ∃ os, w' = Go.Sort.grow w os) := by
  have hg := gEnts_get hn n
  have HMP : Hid (∀ W, Below w.heap.size w W → Mp.MapAt W bm (gEnts l)) := Lib.hid (fun W hW => h.2.same (hW.block _ h.2.lt))
  have HTC := Lib.hid (fun W (hW : Below w.heap.size w W) => cell_blk (blk hW (lt_blk h.1) h.1) 0)
  have c0 := HTC.out _ (one_below w (.cells #[.string ⟨#[]⟩, .int .i64 0, .int .i64 0, .int .i64 0] 84))
  cases hgo : gOf l n with
  | none =>
    have HG : Hid (Mp.mget (gEnts l) n = none) := Lib.hid (by rw [hg, hgo]; rfl)
    have HQ : Hid (gdOf l n = ⟨⟨#[]⟩, 0, 0, 0⟩) := Lib.hid (by rw [gdOf, hgo]; rfl)
    clear h hn hg hgo
    go_enter Tryz.func144, Tryz.ntmps144
    go_wp2_with (first
      | ((with_reducible refine Mp.wpl_miss (l := gEnts l) (key := n) ?_ ?_ ?_ Tryz.underlying169 Tryz.underlying9 (zeroGd _) (HMP.out _ (one_below _ _)) HG.out ?_); rfl; rfl; rfl)
      | fail)
    have HZ : Hid (((w.alloc (.cells #[.string ⟨#[]⟩, .int .i64 0, .int .i64 0, .int .i64 0] 84)).alloc (.cells #[.string ⟨#[]⟩, .int .i64 0, .int .i64 0, .int .i64 0] 84)).heap[w.heap.size]? = some (.cells #[.string ⟨#[]⟩, .int .i64 0, .int .i64 0, .int .i64 0] 84 (0, 0))) := Lib.hid (blk (one_below _ _) (by simp) (heap_alloc_new _ _))
    obtain ⟨z0, z1, z2, z3⟩ := gd_cells HZ.out
    exact bodyPost_ret (v := .tuple #[.agg #[.string ⟨#[]⟩, .int .i64 0, .int .i64 0, .int .i64 0], .bool false]) (by simp [results, Tryz.results144, go_sem, z0, z1, z2, z3]) rfl ⟨by rw [HQ.out]; rfl, _, by rw [Go.Sort.alloc_eq_grow, Go.Sort.alloc_eq_grow, Go.Sort.grow_grow]⟩
  | some g =>
    obtain ⟨gn, gc, gw, gv⟩ := g
    have HG : Hid (Mp.mget (gEnts l) n = some (.agg #[.string gn, .int .i64 gc, .int .i64 gw, .int .i64 gv])) := Lib.hid (by rw [hg, hgo]; rfl)
    have HQ : Hid (gdOf l n = ⟨gn, gc, gw, gv⟩) := Lib.hid (by rw [gdOf, hgo]; rfl)
    clear h hn hg hgo
    go_enter Tryz.func144, Tryz.ntmps144
    go_wp2_with (first
      | ((with_reducible refine Mp.wpl_got (l := gEnts l) (key := n) ?_ ?_ ?_ Tryz.underlying169 Tryz.underlying9 (zeroGd _) (HMP.out _ (one_below _ _)) HG.out ?_); rfl; rfl; rfl)
      | fail)
    have HZ : Hid (((w.alloc (.cells #[.string gn, .int .i64 gc, .int .i64 gw, .int .i64 gv] 84)).alloc (.cells #[.string gn, .int .i64 gc, .int .i64 gw, .int .i64 gv] 84)).heap[w.heap.size]? = some (.cells #[.string gn, .int .i64 gc, .int .i64 gw, .int .i64 gv] 84 (0, 0))) := Lib.hid (blk (one_below _ _) (by simp) (heap_alloc_new _ _))
    obtain ⟨z0, z1, z2, z3⟩ := gd_cells HZ.out
    exact bodyPost_ret (v := .tuple #[.agg #[.string gn, .int .i64 gc, .int .i64 gw, .int .i64 gv], .bool true]) (by simp [results, Tryz.results144, go_sem, z0, z1, z2, z3]) rfl ⟨by rw [HQ.out]; rfl, _, by rw [Go.Sort.alloc_eq_grow, Go.Sort.alloc_eq_grow, Go.Sort.grow_grow]⟩

def orV (a b c : Int) : Int := if a = 0 then (if b = 0 then c else b) else a
set_option maxHeartbeats 2000000 in
theorem or_any (a b c : Int) (g : Nat) (w : World) (hg : w.heap[g]? = some (.cells #[.int .i64 a, .int .i64 b, .int .i64 c] 3 (0, 0))) :
    Calls Tryz.prog 145 #[.slice (some ⟨g, 0, none⟩) 3 3] w (fun e w' => e = .returned (.int .i64 (orV a b c)) ∧ w' = w) := by
  have c0 := cell_blk hg 0
  have c1 := cell_blk hg 1
  have c2 := cell_blk hg 2
  clear hg
  have hv : orV a b c = if a = 0 then (if b = 0 then c else b) else a := rfl
  by_cases h0 : a = 0
  rotate_left
  · have t0 : (a != 0) = true := by simp [h0]
    have HQ : Hid (orV a b c = a) := Lib.hid (by rw [hv, if_neg h0])
    clear h0 hv
    go_enter Tryz.func145, Tryz.ntmps145
    go_wp2_with fail
    refine wp_loop_rounds 1 ?_
    rw [rounds_succ]
    go_wp2_with fail
    go_ret
    exact ⟨by rw [HQ.out]; rfl, rfl⟩
  subst h0
  rw [if_pos rfl] at hv
  by_cases h1 : b = 0
  rotate_left
  · have t0 : (b != 0) = true := by simp [h1]
    have HQ : Hid (orV 0 b c = b) := Lib.hid (by rw [hv, if_neg h1])
    clear h1 hv
    go_enter Tryz.func145, Tryz.ntmps145
    go_wp2_with fail
    refine wp_loop_rounds 2 ?_
    rw [rounds_succ]
    go_wp2_with fail
    rw [rounds_succ]
    go_wp2_with fail
    go_ret
    exact ⟨by rw [HQ.out]; rfl, rfl⟩
  subst h1
  rw [if_pos rfl] at hv
  have HQ := Lib.hid hv
  by_cases h2 : c = 0
  rotate_left
  · have t0 : (c != 0) = true := by simp [h2]
    clear h2 hv
    go_enter Tryz.func145, Tryz.ntmps145
    go_wp2_with fail
    refine wp_loop_rounds 3 ?_
    rw [rounds_succ]
    go_wp2_with fail
    rw [rounds_succ]
    go_wp2_with fail
    rw [rounds_succ]
    go_wp2_with fail
    go_ret
    exact ⟨by rw [HQ.out]; rfl, rfl⟩
  subst h2
  clear hv
  go_enter Tryz.func145, Tryz.ntmps145
  go_wp2_with fail
  refine wp_loop_rounds 4 ?_
  rw [rounds_succ]
  go_wp2_with fail
  rw [rounds_succ]
  go_wp2_with fail
  rw [rounds_succ]
  go_wp2_with fail
  rw [rounds_succ]
  go_wp2_with fail
  go_ret
  exact ⟨by rw [HQ.out]; rfl, rfl⟩

/-- What the closure compares. -/
def cmpO (t : List Gd) (x y : Lt) : Int := orV (cmpI (gdOf t y.good).vol (gdOf t x.good).vol) (cmpI (gdOf t y.good).wt (gdOf t x.good).wt) (cmpS x.good y.good)
theorem cmpI_zero (a b : Int) : cmpI a b = 0 ↔ a = b := by
  unfold cmpI
  split
  · omega
  · split <;> omega
theorem cmpI_neg (a b : Int) : cmpI a b < 0 ↔ a < b := by
  unfold cmpI
  split
  · omega
  · split <;> omega
theorem cmpS_neg (a b : ByteArray) : cmpS a b < 0 ↔ bt a < bt b := by
  unfold cmpS
  split
  · rename_i h; simp [h]
  · rename_i h; split <;> simp [h]
theorem cmpO_ahead {t : List Gd} {x y : Lt} (hx : ∃ g, gOf t x.good = some g) (hy : ∃ g, gOf t y.good = some g) : ltOf (cmpO t) x y = aheadP t x y := by
  obtain ⟨gx, hx⟩ := hx
  obtain ⟨gy, hy⟩ := hy
  rw [ahead_some hx hy]
  have ex : gdOf t x.good = gx := by rw [gdOf, hx]; rfl
  have ey : gdOf t y.good = gy := by rw [gdOf, hy]; rfl
  unfold ltOf cmpO orV
  rw [ex, ey]
  by_cases v : gx.vol = gy.vol
  · rw [if_pos v, if_pos ((cmpI_zero _ _).2 v.symm)]
    by_cases u : gx.wt = gy.wt
    · rw [if_pos u, if_pos ((cmpI_zero _ _).2 u.symm), decide_eq_decide, cmpS_neg]
    · rw [if_neg u, if_neg (fun h => u ((cmpI_zero _ _).1 h).symm), decide_eq_decide, cmpI_neg]
  · rw [if_neg v, if_neg (fun h => v ((cmpI_zero _ _).1 h).symm), decide_eq_decide, cmpI_neg]
end Go.Proofs.YtbigoifpfkdkjaaGreatDoor.Sc
namespace Go.Proofs.YtbigoifpfkdkjaaGreatDoor.Sc
open Go Go.RowKit Go.ChangeShapes Go.WideShapes Go.ChangeAt Go.Sort Go.Shelf
set_option maxRecDepth 100000

/-- A world with new blocks behind it, and draws. -/
def Gw (w w' : World) : Prop := ∃ q os, w' = Go.Sort.grow (w.drewN q) os
theorem Gw.refl (w : World) : Gw w w := ⟨0, #[], by rw [Go.Sort.grow_empty]; rfl⟩
theorem Gw.trans {a b c : World} (h : Gw a b) (k : Gw b c) : Gw a c := by
  obtain ⟨q, os, rfl⟩ := h
  obtain ⟨q', os', rfl⟩ := k
  refine ⟨q + q', os ++ os', ?_⟩
  show Go.Sort.grow (Go.Sort.grow ((a.drewN q).drewN q') os) os' = _
  rw [Go.Sort.grow_grow]
  unfold World.drewN
  rw [Nat.add_assoc]
theorem Gw.alloc {w w' : World} (h : Gw w w') (o : Obj) : Gw w (w'.alloc o) := h.trans ⟨0, #[o], Go.Sort.alloc_eq_grow _ _⟩
theorem Gw.drew {w w' : World} (h : Gw w w') : Gw w w'.drew := h.trans ⟨1, #[], by rw [Go.Sort.grow_empty]; rfl⟩
theorem Gw.below {w w' : World} (h : Gw w w') : RowKit.Below w.heap.size w w' := by
  obtain ⟨q, os, rfl⟩ := h
  exact ⟨rfl, rfl, rfl, by simp [Go.Sort.grow, World.drewN], fun k hk => (Go.Sort.heap_grow_old _ _ hk).trans rfl⟩
set_option maxHeartbeats 8000000 in
theorem byOrd_any (t : List Gd) (x y : Lt) (bt bm b2 : Nat) (W : World) (h2 : W.cell? ⟨b2, 0, none⟩ = some (.pointer (some ⟨bt, 0, none⟩))) (hl2 : b2 < W.heap.size) (htab : Tab W bt bm t) (hn : (codes t).Nodup) :
    Calls Tryz.prog 143 #[x.val, y.val, .pointer (some ⟨b2, 0, none⟩)] W (fun e w' => e = .returned (.int .i64 (cmpO t x y)) ∧ ∃ q os', w' = Go.Sort.grow (W.drewN q) os') := by
  have HG := Lib.hid (fun n V (hV : Gw W V) => (getG_any t bt bm n V (htab.below hV.below) hn).mono fun e w' h => (show e = .returned (.tuple #[(gdOf t n).val, .bool (gOf t n).isSome]) ∧ Gw V w' from ⟨h.1, by obtain ⟨os, e⟩ := h.2; exact ⟨0, os, e⟩⟩))
  have H2 := Lib.hid (fun V (hV : Gw W V) => (hV.below.cell (p := ⟨b2, 0, none⟩) hl2).trans h2)
  have hq : cmpO t x y = orV (cmpI (gdOf t y.good).vol (gdOf t x.good).vol) (cmpI (gdOf t y.good).wt (gdOf t x.good).wt) (cmpS x.good y.good) := rfl
  obtain ⟨xn, xc⟩ := x
  obtain ⟨yn, yc⟩ := y
  have HGX := Lib.hid (HG.out xn)
  have HGY := Lib.hid (HG.out yn)
  simp only at hq
  generalize gdOf t xn = gx at *
  generalize gdOf t yn = gy at *
  generalize (gOf t xn).isSome = s1 at *
  generalize (gOf t yn).isSome = s2 at *
  obtain ⟨xg, xk, xw, xv⟩ := gx
  obtain ⟨yg, yk, yw, yv⟩ := gy
  have HN1 := Lib.hid (fun V => compareI_any yv xv V)
  have HN2 := Lib.hid (fun V => compareI_any yw xw V)
  have HN3 := Lib.hid (fun V => compare_any xn yn V)
  simp only at hq
  generalize cmpI yv xv = n1 at *
  generalize cmpI yw xw = n2 at *
  generalize cmpS xn yn = n3 at *
  obtain ⟨r, hr⟩ : ∃ r, r = orV n1 n2 n3 := ⟨_, rfl⟩
  have HQ : Hid (cmpO t ⟨xn, xc⟩ ⟨yn, yc⟩ = r) := Lib.hid (by rw [hq, hr])
  simp only [Lt.val, Gd.val] at HGX HGY ⊢
  clear htab hn HG hq
  obtain ⟨W2, hW2⟩ : ∃ W2, W2 = (W.alloc (.cells #[.string xn, .int .i64 xc] 107)).alloc (.cells #[.string yn, .int .i64 yc] 107) := ⟨_, rfl⟩
  obtain ⟨b3, hb3⟩ : ∃ b, b = W.heap.size := ⟨_, rfl⟩
  obtain ⟨b4, hb4⟩ : ∃ b, b = W.heap.size + 1 := ⟨_, rfl⟩
  have HX3 : Hid (W2.heap[b3]? = some (.cells #[.string xn, .int .i64 xc] 107 (0, 0))) := Lib.hid (by
    rw [hW2, hb3]
    exact blk (one_below _ _) (by simp) (heap_alloc_new W _))
  have HX4 : Hid (W2.heap[b4]? = some (.cells #[.string yn, .int .i64 yc] 107 (0, 0))) := Lib.hid (by
    rw [hW2, hb4]
    have := heap_alloc_new (W.alloc (.cells #[.string xn, .int .i64 xc] 107)) (.cells #[.string yn, .int .i64 yc] 107)
    simpa using this)
  have HW2 : Hid (Gw W W2) := Lib.hid (by rw [hW2]; exact ((Gw.refl W).alloc _).alloc _)
  rw [hW2] at HX3 HX4 HW2
  rw [hb3] at HX3
  rw [hb4] at HX4
  clear hW2 hb3 hb4 W2 b3 b4
  go_enter Tryz.func143, Tryz.ntmps143
  go_wp2_with (first
    | ((with_reducible refine (HGX.out _ HW2.out).mono ?_); rintro e w3 ⟨rfl, hg3⟩
       have HG3 := Lib.hid (HW2.out.trans hg3)
       have HX3 := Lib.hid (blk hg3.below (lt_blk HX3.out) HX3.out); have HX4 := Lib.hid (blk hg3.below (lt_blk HX4.out) HX4.out)
       have y4 := cell_blk HX4.out 0; have ly4 := lt_blk HX4.out; have c2 := H2.out _ HG3.out; have lc2 := Nat.lt_of_lt_of_le hl2 HG3.out.below.size; clear hg3)
    | ((with_reducible refine (HGY.out _ (HG3.out.alloc _)).mono ?_); rintro e w4 ⟨rfl, hg4⟩
       have HG4 := Lib.hid ((HG3.out.alloc _).trans hg4)
       have HX6 := Lib.hid (blk hg4.below (by simp) (heap_alloc_new w3 (.cells #[.string xg, .int .i64 xk, .int .i64 xw, .int .i64 xv] 84)))
       have HX3 := Lib.hid (blk hg4.below (Nat.lt_of_lt_of_le (lt_blk HX3.out) (by simp)) (blk (one_below _ _) (lt_blk HX3.out) HX3.out)); have HX4 := Lib.hid (blk hg4.below (Nat.lt_of_lt_of_le (lt_blk HX4.out) (by simp)) (blk (one_below _ _) (lt_blk HX4.out) HX4.out))
       clear y4 ly4 c2 lc2 hg4)
    | fail)
  obtain ⟨w5, hw5⟩ : ∃ w5, w5 = w4.alloc (.cells #[.string yg, .int .i64 yk, .int .i64 yw, .int .i64 yv] 84) := ⟨_, rfl⟩
  obtain ⟨b3, hb3⟩ : ∃ b, b = W.heap.size := ⟨_, rfl⟩
  obtain ⟨b4, hb4⟩ : ∃ b, b = W.heap.size + 1 := ⟨_, rfl⟩
  obtain ⟨b6, hb6⟩ : ∃ b, b = w3.heap.size := ⟨_, rfl⟩
  obtain ⟨b8, hb8⟩ : ∃ b, b = w4.heap.size := ⟨_, rfl⟩
  have HX8 := Lib.hid (heap_alloc_new w4 (.cells #[.string yg, .int .i64 yk, .int .i64 yw, .int .i64 yv] 84))
  have HG5 := Lib.hid (HG4.out.alloc (.cells #[.string yg, .int .i64 yk, .int .i64 yw, .int .i64 yv] 84))
  have h45 := one_below w4 (.cells #[.string yg, .int .i64 yk, .int .i64 yw, .int .i64 yv] 84)
  have HX3 := Lib.hid (blk h45 (lt_blk HX3.out) HX3.out)
  have HX4 := Lib.hid (blk h45 (lt_blk HX4.out) HX4.out)
  have HX6 := Lib.hid (blk h45 (lt_blk HX6.out) HX6.out)
  rw [← hw5, ← hb3] at HX3
  rw [← hw5, ← hb4] at HX4
  rw [← hw5, ← hb6] at HX6
  rw [← hw5, ← hb8] at HX8
  rw [← hw5] at HG5
  rw [← hw5, ← hb4, ← hb3, ← hb6, ← hb8]
  clear h45 hw5 hb3 hb4 hb6 hb8
  have HC : Hid (∀ V, RowKit.Below w5.heap.size w5 V → V.cell? ⟨b3, 0, none⟩ = some (.string xn) ∧ V.cell? ⟨b4, 0, none⟩ = some (.string yn) ∧ V.cell? ⟨b6, 2, none⟩ = some (.int .i64 xw) ∧ V.cell? ⟨b6, 3, none⟩ = some (.int .i64 xv) ∧ V.cell? ⟨b8, 2, none⟩ = some (.int .i64 yw) ∧ V.cell? ⟨b8, 3, none⟩ = some (.int .i64 yv)) := Lib.hid (fun V hV =>
    ⟨cell_blk (blk hV (lt_blk HX3.out) HX3.out) 0, cell_blk (blk hV (lt_blk HX4.out) HX4.out) 0, cell_blk (blk hV (lt_blk HX6.out) HX6.out) 2, cell_blk (blk hV (lt_blk HX6.out) HX6.out) 3, cell_blk (blk hV (lt_blk HX8.out) HX8.out) 2, cell_blk (blk hV (lt_blk HX8.out) HX8.out) 3⟩)
  have HOR : Hid (∀ V, V.heap[w5.heap.size]? = some (.cells #[.int .i64 n1, .int .i64 n2, .int .i64 n3] 3 (0, 0)) → Calls Tryz.prog 145 #[.slice (some ⟨w5.heap.size, 0, none⟩) 3 3] V (fun e w' => e = .returned (.int .i64 r) ∧ w' = V)) := Lib.hid (fun V hV => by rw [hr]; exact or_any n1 n2 n3 _ V hV)
  have HEND : Hid (∀ w9, w9 = w5.drew.alloc (.cells #[.int .i64 n1, .int .i64 n2, .int .i64 n3] 3) → (Ending.returned (.int .i64 r) = .returned (.int .i64 (cmpO t ⟨xn, xc⟩ ⟨yn, yc⟩)) ∧ ∃ q os', w9 = Go.Sort.grow (W.drewN q) os')) := Lib.hid (fun w9 h => ⟨by rw [HQ.out], by rw [h]; exact (HG5.out.drew).alloc _⟩)
  have HD0 : Hid (RowKit.Below w5.heap.size w5 w5.drew) := Lib.hid ⟨rfl, rfl, rfl, Nat.le_refl _, fun _ _ => rfl⟩
  have HD1 : Hid (RowKit.Below w5.heap.size w5 (w5.drew.alloc (.cells #[.int .i64 n1, .int .i64 n2, .int .i64 n3] 3))) := Lib.hid (HD0.out.trans (one_below w5.drew _))
  clear h2 hr HX3 HX4 HX6 HX8
  refine Stg.region_lit (fun
    | 0 => .pointer (some ⟨b8, 3, none⟩)
    | 1 => .int .i64 yv
    | 2 => .pointer (some ⟨b6, 3, none⟩)
    | 3 => .int .i64 xv
    | 4 => .int .i64 n1
    | 5 => .pointer (some ⟨b8, 2, none⟩)
    | 6 => .int .i64 yw
    | 7 => .pointer (some ⟨b6, 2, none⟩)
    | 8 => .int .i64 xw
    | 9 => .int .i64 n2
    | 10 => .pointer (some ⟨b3, 0, none⟩)
    | 11 => .string xn
    | 12 => .pointer (some ⟨b4, 0, none⟩)
    | 13 => .string yn
    | 14 => .int .i64 n3
    | 15 => .slice (some ⟨w5.heap.size, 0, none⟩) 3 3
    | 16 => .int .i64 r
    | 17 => .int .i64 r
    | _ => undef) [(15, fun W => W = w5.drew.alloc (.cells #[.int .i64 n1, .int .i64 n2, .int .i64 n3] 3))] (by kernel_rfl) (by kernel_rfl) (by kernel_rfl) ?_ ?_
  · refine ⟨?_, ?_, ?_, ?_, ?_, ?_, ?_, ?_, ?_, ?_, ?_, ?_, ?_, ?_, ?_, ?_, ?_, ?_, trivial⟩
    · refine Stg.owes_pure rfl (by kernel_rfl) fun ρ L wo hs' hc' => ?_
      have h8 : ρ (.tmp 8) = .pointer (some ⟨b8, 0, none⟩) := hs'.old' 8 (by kernel_rfl)
      go_simp
      try exact ⟨rfl, rfl⟩
    · refine Stg.owes_pure rfl (by kernel_rfl) fun ρ L wo hs' hc' => ?_
      have h24 : ρ (.tmp 24) = .pointer (some ⟨b8, 3, none⟩) := hs'.new' 24 0 (by kernel_rfl)
      obtain ⟨c0, c1, c2, c3, c4, c5⟩ := HC.out wo (Stg.stage_one hs'.world HD0.out (fun v hv => by rw [hv]; exact HD1.out))
      go_simp
    · refine Stg.owes_pure rfl (by kernel_rfl) fun ρ L wo hs' hc' => ?_
      have h6 : ρ (.tmp 6) = .pointer (some ⟨b6, 0, none⟩) := hs'.old' 6 (by kernel_rfl)
      go_simp
      try exact ⟨rfl, rfl⟩
    · refine Stg.owes_pure rfl (by kernel_rfl) fun ρ L wo hs' hc' => ?_
      have h26 : ρ (.tmp 26) = .pointer (some ⟨b6, 3, none⟩) := hs'.new' 26 2 (by kernel_rfl)
      obtain ⟨c0, c1, c2, c3, c4, c5⟩ := HC.out wo (Stg.stage_one hs'.world HD0.out (fun v hv => by rw [hv]; exact HD1.out))
      go_simp
    · refine Stg.owes_pure rfl (by kernel_rfl) fun ρ L wo hs' hc' => ?_
      have h25 : ρ (.tmp 25) = .int .i64 yv := hs'.new' 25 1 (by kernel_rfl)
      have h27 : ρ (.tmp 27) = .int .i64 xv := hs'.new' 27 3 (by kernel_rfl)
      have hf := hs'.func 146
      go_simp
      exact (HN1.out wo).mono fun e w' ⟨he, hw⟩ => ⟨_, he, rfl, hw⟩
    · refine Stg.owes_pure rfl (by kernel_rfl) fun ρ L wo hs' hc' => ?_
      have h8 : ρ (.tmp 8) = .pointer (some ⟨b8, 0, none⟩) := hs'.old' 8 (by kernel_rfl)
      go_simp
      try exact ⟨rfl, rfl⟩
    · refine Stg.owes_pure rfl (by kernel_rfl) fun ρ L wo hs' hc' => ?_
      have h29 : ρ (.tmp 29) = .pointer (some ⟨b8, 2, none⟩) := hs'.new' 29 5 (by kernel_rfl)
      obtain ⟨c0, c1, c2, c3, c4, c5⟩ := HC.out wo (Stg.stage_one hs'.world HD0.out (fun v hv => by rw [hv]; exact HD1.out))
      go_simp
    · refine Stg.owes_pure rfl (by kernel_rfl) fun ρ L wo hs' hc' => ?_
      have h6 : ρ (.tmp 6) = .pointer (some ⟨b6, 0, none⟩) := hs'.old' 6 (by kernel_rfl)
      go_simp
      try exact ⟨rfl, rfl⟩
    · refine Stg.owes_pure rfl (by kernel_rfl) fun ρ L wo hs' hc' => ?_
      have h31 : ρ (.tmp 31) = .pointer (some ⟨b6, 2, none⟩) := hs'.new' 31 7 (by kernel_rfl)
      obtain ⟨c0, c1, c2, c3, c4, c5⟩ := HC.out wo (Stg.stage_one hs'.world HD0.out (fun v hv => by rw [hv]; exact HD1.out))
      go_simp
    · refine Stg.owes_pure rfl (by kernel_rfl) fun ρ L wo hs' hc' => ?_
      have h30 : ρ (.tmp 30) = .int .i64 yw := hs'.new' 30 6 (by kernel_rfl)
      have h32 : ρ (.tmp 32) = .int .i64 xw := hs'.new' 32 8 (by kernel_rfl)
      have hf := hs'.func 146
      go_simp
      exact (HN2.out wo).mono fun e w' ⟨he, hw⟩ => ⟨_, he, rfl, hw⟩
    · refine Stg.owes_pure rfl (by kernel_rfl) fun ρ L wo hs' hc' => ?_
      have h3 : ρ (.tmp 3) = .pointer (some ⟨b3, 0, none⟩) := hs'.old' 3 (by kernel_rfl)
      go_simp
      try exact ⟨rfl, rfl⟩
    · refine Stg.owes_pure rfl (by kernel_rfl) fun ρ L wo hs' hc' => ?_
      have h34 : ρ (.tmp 34) = .pointer (some ⟨b3, 0, none⟩) := hs'.new' 34 10 (by kernel_rfl)
      obtain ⟨c0, c1, c2, c3, c4, c5⟩ := HC.out wo (Stg.stage_one hs'.world HD0.out (fun v hv => by rw [hv]; exact HD1.out))
      go_simp
    · refine Stg.owes_pure rfl (by kernel_rfl) fun ρ L wo hs' hc' => ?_
      have h4 : ρ (.tmp 4) = .pointer (some ⟨b4, 0, none⟩) := hs'.old' 4 (by kernel_rfl)
      go_simp
      try exact ⟨rfl, rfl⟩
    · refine Stg.owes_pure rfl (by kernel_rfl) fun ρ L wo hs' hc' => ?_
      have h36 : ρ (.tmp 36) = .pointer (some ⟨b4, 0, none⟩) := hs'.new' 36 12 (by kernel_rfl)
      obtain ⟨c0, c1, c2, c3, c4, c5⟩ := HC.out wo (Stg.stage_one hs'.world HD0.out (fun v hv => by rw [hv]; exact HD1.out))
      go_simp
    · refine Stg.owes_pure rfl (by kernel_rfl) fun ρ L wo hs' hc' => ?_
      have h35 : ρ (.tmp 35) = .string xn := hs'.new' 35 11 (by kernel_rfl)
      have h37 : ρ (.tmp 37) = .string yn := hs'.new' 37 13 (by kernel_rfl)
      have hf := hs'.func 147
      go_simp
      exact (HN3.out wo).mono fun e w' ⟨he, hw⟩ => ⟨_, he, rfl, hw⟩
    · refine Stg.owes_turn (pre := []) rfl rfl (by kernel_rfl) fun ρ L wo hs' hc' hw => ?_
      have h28 : ρ (.tmp 28) = .int .i64 n1 := hs'.new' 28 4 (by kernel_rfl)
      have h33 : ρ (.tmp 33) = .int .i64 n2 := hs'.new' 33 9 (by kernel_rfl)
      have h38 : ρ (.tmp 38) = .int .i64 n3 := hs'.new' 38 14 (by kernel_rfl)
      have e0 : wo = w5.drew := hw
      subst e0
      go_simp
      try exact ⟨rfl, rfl⟩
    · refine Stg.owes_pure rfl (by kernel_rfl) fun ρ L wo hs' hc' => ?_
      have h39 : ρ (.tmp 39) = .slice (some ⟨w5.heap.size, 0, none⟩) 3 3 := hs'.new' 39 15 (by kernel_rfl)
      have hf := hs'.func 145
      have e0 := Lib.hid (Stg.stage_head hs'.world (hs'.behind 15 (by kernel_rfl)))
      go_simp
      exact (HOR.out wo (by rw [e0.out]; exact heap_alloc_new w5.drew _)).mono fun e w' ⟨he, hw⟩ => ⟨_, he, rfl, hw⟩
    · refine Stg.owes_pure rfl (by kernel_rfl) fun ρ L wo hs' hc' => ?_
      have h40 : ρ (.tmp 40) = .int .i64 r := hs'.new' 40 16 (by kernel_rfl)
      exact Any.ok_assign ⟨h40, rfl⟩
  intro L w9 hL hst
  have e0 := Stg.stage_head hst (hL 15 (by decide))
  have HW := Lib.hid e0
  clear hL hst e0
  simp only [Any.putAll]
  go_frame
  go_wp2_with fail
  go_ret
  exact HEND.out _ HW.out
end Go.Proofs.YtbigoifpfkdkjaaGreatDoor.Sc
namespace Go.Proofs.YtbigoifpfkdkjaaGreatDoor.Sc
open Go Go.RowKit Go.Sort
set_option maxRecDepth 100000

section
variable {α : Type} [Inhabited α] (lt : α → α → Bool)
def insB : List α → α → List α
  | [], x => [x]
  | a :: r, x => if lt x a then a :: insB r x else x :: a :: r
def insE (l : List α) (x : α) : List α := (insB lt l.reverse x).reverse
omit [Inhabited α] in
theorem insE_snoc (l : List α) (a x : α) : insE lt (l ++ [a]) x = if lt x a then insE lt l x ++ [a] else l ++ [a] ++ [x] := by
  unfold insE
  rw [List.reverse_append, List.reverse_singleton, List.singleton_append, insB]
  split
  · rw [List.reverse_cons]
  · rw [List.reverse_cons, List.reverse_cons, List.reverse_reverse]
theorem at_mid (P rest : List α) (a : α) : ((P ++ a :: rest).toArray)[P.length]! = a := by
  rw [getElem!_pos _ _ (by simp)]
  simp
theorem at_next (P rest : List α) (a x : α) : ((P ++ a :: x :: rest).toArray)[P.length + 1]! = x := by
  simp
theorem swp_mid (P rest : List α) (a x : α) : swp (P ++ a :: x :: rest).toArray (P.length + 1) P.length = (P ++ x :: a :: rest).toArray := by
  unfold swp
  rw [at_mid, at_next]
  apply Array.ext'
  simp
theorem insInner_mid (X : List α) (P : List α) : ∀ (x : α) (rest : List α), insInner lt X.length (X.length + P.length) (X ++ P ++ x :: rest).toArray = (X ++ insE lt P x ++ rest).toArray := by
  induction h : P.length generalizing P with
  | zero =>
    intro x rest
    obtain rfl := List.length_eq_zero_iff.1 h
    have e : X ++ [] ++ x :: rest = X ++ insE lt [] x ++ rest := by simp [insE, insB]
    rw [Nat.add_zero, e]
    generalize (X ++ insE lt [] x ++ rest).toArray = d
    cases hx : X.length with
    | zero => rfl
    | succ n =>
      rw [insInner]
      simp
  | succ n ih =>
    intro x rest
    obtain ⟨P', a, rfl⟩ : ∃ P' a, P = P' ++ [a] := ⟨P.dropLast, P.getLast (by intro e; rw [e] at h; cases h), (List.dropLast_concat_getLast _).symm⟩
    have hl : P'.length = n := by simpa using h
    subst hl
    have e : X ++ (P' ++ [a]) ++ x :: rest = (X ++ P') ++ a :: x :: rest := by simp
    have hn : X.length + (P'.length + 1) = (X ++ P').length + 1 := by simp; omega
    rw [e, hn, insInner, at_next, at_mid, insE_snoc]
    cases hx : lt x a
    · simp
    · have h1 : (decide ((X ++ P').length + 1 > X.length) && true) = true := by simp; omega
      rw [h1, if_pos rfl, swp_mid]
      have h2 := ih P' rfl x (a :: rest)
      rw [show X.length + P'.length = (X ++ P').length by simp] at h2
      rw [h2]
      simp
omit [Inhabited α] in
theorem insE_len (P : List α) (x : α) : (insE lt P x).length = P.length + 1 := by
  unfold insE
  rw [List.length_reverse]
  have : ∀ l : List α, (insB lt l x).length = l.length + 1 := by
    intro l
    induction l with
    | nil => rfl
    | cons b q ih => rw [insB]; split <;> simp [ih]
  rw [this, List.length_reverse]
theorem insOuter_mid (X S : List α) : ∀ (rest P : List α), insOuter lt X.length (X.length + P.length + rest.length) (X.length + P.length) (X ++ P ++ rest ++ S).toArray = (X ++ rest.foldl (insE lt) P ++ S).toArray
  | [], P => by
    rw [insOuter, if_neg (by simp)]
    simp
  | x :: r, P => by
    have e : X ++ P ++ x :: r ++ S = X ++ P ++ x :: (r ++ S) := by simp
    rw [insOuter, if_pos (by simp), e, insInner_mid]
    have h2 := insOuter_mid X S r (insE lt P x)
    rw [insE_len] at h2
    rw [List.foldl_cons, ← h2, List.length_cons, ← List.append_assoc (X ++ insE lt P x) r S]
    congr 1 <;> omega
theorem insertion_mid (X A S : List α) : insertionSort lt (X ++ A ++ S).toArray X.length (X.length + A.length) = (X ++ A.foldl (insE lt) [] ++ S).toArray := by
  cases A with
  | nil => rw [insertionSort, insOuter, if_neg (by simp)]; simp
  | cons x r =>
    have h := insOuter_mid lt X S r [x]
    rw [insertionSort]
    have e : X.length + ([x] : List α).length + r.length = X.length + (x :: r).length := by simp; omega
    rw [e] at h
    have e2 : X ++ [x] ++ r ++ S = X ++ x :: r ++ S := by simp
    rw [e2] at h
    exact h

omit [Inhabited α] in
/-- It is a row of the same elements, in order. -/
theorem insB_perm (x : α) : ∀ l : List α, (insB lt l x).Perm (x :: l)
  | [] => List.Perm.refl _
  | a :: r => by
    rw [insB]
    split
    · exact ((insB_perm x r).cons a).trans (List.Perm.swap x a r)
    · exact List.Perm.refl _
omit [Inhabited α] in
theorem insE_perm (x : α) (l : List α) : (insE lt l x).Perm (x :: l) := by
  unfold insE
  exact (List.reverse_perm _).trans ((insB_perm lt x l.reverse).trans ((List.reverse_perm l).cons x))
omit [Inhabited α] in
theorem fold_perm : ∀ (r P : List α), (r.foldl (insE lt) P).Perm (r ++ P)
  | [], P => List.Perm.refl _
  | x :: r, P => by
    rw [List.foldl_cons]
    exact (fold_perm r (insE lt P x)).trans (((insE_perm lt x P).append_left r).trans List.perm_middle)
omit [Inhabited α] in
theorem insB_sorted (htr : ∀ a b c, lt a b = true → lt b c = true → lt a c = true) (x : α) : ∀ l : List α, (∀ a ∈ l, lt a x = true ∨ lt x a = true) → l.Pairwise (fun a b => lt b a = true) → (insB lt l x).Pairwise (fun a b => lt b a = true)
  | [], _, _ => by simp [insB]
  | a :: r, h, hp => by
    obtain ⟨h1, h2⟩ := List.pairwise_cons.1 hp
    rw [insB]
    split
    · rename_i hx
      refine List.pairwise_cons.2 ⟨fun b hb => ?_, insB_sorted htr x r (fun b hb => h b (List.mem_cons_of_mem _ hb)) h2⟩
      rcases List.mem_cons.1 ((insB_perm lt x r).mem_iff.1 hb) with rfl | hb
      · exact hx
      · exact h1 b hb
    · rename_i hx
      have hax : lt a x = true := (h a List.mem_cons_self).resolve_right hx
      refine List.pairwise_cons.2 ⟨fun b hb => ?_, hp⟩
      rcases List.mem_cons.1 hb with rfl | hb
      · exact hax
      · exact htr _ _ _ (h1 b hb) hax
omit [Inhabited α] in
theorem insE_sorted (htr : ∀ a b c, lt a b = true → lt b c = true → lt a c = true) (x : α) (l : List α) (h : ∀ a ∈ l, lt a x = true ∨ lt x a = true) (hp : l.Pairwise (fun a b => lt a b = true)) : (insE lt l x).Pairwise (fun a b => lt a b = true) := by
  unfold insE
  rw [List.pairwise_reverse]
  exact insB_sorted lt htr x l.reverse (fun a ha => h a (List.mem_reverse.1 ha)) (by rw [List.pairwise_reverse]; exact hp)
end
end Go.Proofs.YtbigoifpfkdkjaaGreatDoor.Sc
namespace Go.Proofs.YtbigoifpfkdkjaaGreatDoor.Sc
open Go Go.RowKit Go.ChangeShapes Go.WideShapes Go.ChangeAt Go.Sort Go.Shelf
set_option maxRecDepth 100000

theorem ltO_iff (t : List Gd) (x y : Lt) : ltOf (cmpO t) x y = true ↔ (gdOf t y.good).vol < (gdOf t x.good).vol ∨ ((gdOf t x.good).vol = (gdOf t y.good).vol ∧ ((gdOf t y.good).wt < (gdOf t x.good).wt ∨ ((gdOf t x.good).wt = (gdOf t y.good).wt ∧ bt x.good < bt y.good))) := by
  unfold ltOf cmpO orV
  rw [decide_eq_true_eq]
  by_cases v : cmpI (gdOf t y.good).vol (gdOf t x.good).vol = 0
  · rw [if_pos v]
    have v' := (cmpI_zero _ _).1 v
    by_cases u : cmpI (gdOf t y.good).wt (gdOf t x.good).wt = 0
    · have u' := (cmpI_zero _ _).1 u
      rw [if_pos u, cmpS_neg]
      constructor
      · exact fun h => .inr ⟨v'.symm, .inr ⟨u'.symm, h⟩⟩
      · rintro (h | ⟨_, h | ⟨_, h⟩⟩)
        · omega
        · omega
        · exact h
    · have u' := fun e => u ((cmpI_zero _ _).2 e)
      rw [if_neg u, cmpI_neg]
      constructor
      · exact fun h => .inr ⟨v'.symm, .inl h⟩
      · rintro (h | ⟨_, h | ⟨h, _⟩⟩)
        · omega
        · exact h
        · exact absurd h.symm u'
  · have v' := fun e => v ((cmpI_zero _ _).2 e)
    rw [if_neg v, cmpI_neg]
    constructor
    · exact .inl
    · rintro (h | ⟨h, _⟩)
      · exact h
      · exact absurd h.symm v'
theorem ltO_trans (t : List Gd) (a b c : Lt) (h1 : ltOf (cmpO t) a b = true) (h2 : ltOf (cmpO t) b c = true) : ltOf (cmpO t) a c = true := by
  rw [ltO_iff] at *
  rcases h1 with h1 | ⟨e1, h1⟩
  · rcases h2 with h2 | ⟨e2, _⟩ <;> exact .inl (by omega)
  · rcases h2 with h2 | ⟨e2, h2⟩
    · exact .inl (by omega)
    · refine .inr ⟨by omega, ?_⟩
      rcases h1 with h1 | ⟨f1, h1⟩
      · rcases h2 with h2 | ⟨f2, _⟩ <;> exact .inl (by omega)
      · rcases h2 with h2 | ⟨f2, h2⟩
        · exact .inl (by omega)
        · exact .inr ⟨by omega, List.lt_trans h1 h2⟩
theorem ltO_total (t : List Gd) (a b : Lt) (h : a.good ≠ b.good) : ltOf (cmpO t) a b = true ∨ ltOf (cmpO t) b a = true := by
  rw [ltO_iff, ltO_iff]
  rcases Int.lt_trichotomy (gdOf t a.good).vol (gdOf t b.good).vol with v | v | v
  · exact .inr (.inl v)
  · rcases Int.lt_trichotomy (gdOf t a.good).wt (gdOf t b.good).wt with u | u | u
    · exact .inr (.inr ⟨v.symm, .inl u⟩)
    · by_cases hl : bt a.good < bt b.good
      · exact .inl (.inr ⟨v, .inr ⟨u, hl⟩⟩)
      · exact .inr (.inr ⟨v.symm, .inr ⟨u.symm, bt_cases hl h⟩⟩)
    · exact .inl (.inr ⟨v, .inl u⟩)
  · exact .inl (.inl v)
theorem foldE_sorted (t : List Gd) : ∀ (r P : List Lt), ((r ++ P).map Lt.good).Nodup → P.Pairwise (fun a b => ltOf (cmpO t) a b = true) → (r.foldl (insE (ltOf (cmpO t))) P).Pairwise (fun a b => ltOf (cmpO t) a b = true)
  | [], P, _, hp => hp
  | x :: r, P, hd, hp => by
    rw [List.foldl_cons]
    have hperm : (r ++ insE (ltOf (cmpO t)) P x).Perm (x :: r ++ P) := ((insE_perm _ x P).append_left r).trans List.perm_middle
    refine foldE_sorted t r _ (((hperm.map Lt.good).nodup_iff).2 hd) (insE_sorted _ (ltO_trans t) x P (fun a ha => ltO_total t a x fun e => ?_) hp)
    simp only [List.cons_append, List.map_cons, List.nodup_cons, List.map_append, List.mem_append] at hd
    exact hd.1 (.inr (List.mem_map.2 ⟨a, ha, e⟩))
/-- The program's order is the document's. -/
theorem foldE_ord {t : List Gd} {l : List Lt} (h : AllIn t l) : (joinL l).foldl (insE (ltOf (cmpO t))) [] = ordL t l := by
  have hd := diff_join h
  have hp : ((joinL l).foldl (insE (ltOf (cmpO t))) []).Perm (joinL l) := by
    have := fold_perm (ltOf (cmpO t)) (joinL l) []
    rwa [List.append_nil] at this
  refine ord_ext (t := t) ?_ (ordL_sorted h) (hp.trans (ordL_perm t l).symm)
  refine (foldE_sorted t (joinL l) [] (by rw [List.append_nil]; exact hd.1) List.Pairwise.nil).imp_of_mem fun {a b} ha hb hab => ?_
  rwa [cmpO_ahead (hd.2 a (hp.mem_iff.1 ha)) (hd.2 b (hp.mem_iff.1 hb))] at hab
theorem sortWorld_block {w : World} {g m b : Nat} {dk : Array Lt} {os : Array Obj} (hb : b < w.heap.size) (hne : b ≠ g) : (sortWorldK Lt.row 2 w g 0 m dk os).heap[b]? = w.heap[b]? := by
  unfold sortWorldK putRowK
  rw [Go.Sort.heap_grow_old _ _ (by rw [Go.Sort.size_putRow]; exact hb)]
  have : ¬ g = b := fun e => hne e.symm
  simp only [Go.Sort.putRow, Go.Sort.mapBlock, Go.Sort.heap_ahead, Array.getElem?_modify, this, if_false]
theorem sortWorld_size {w : World} {g m : Nat} {dk : Array Lt} {os : Array Obj} : w.heap.size ≤ (sortWorldK Lt.row 2 w g 0 m dk os).heap.size := by
  unfold sortWorldK putRowK
  simp [Go.Sort.grow, Go.Sort.size_putRow, Go.Sort.heap_ahead]
def SrtP (w : World) (B : Nat) (v : Value) (L : Nat) (D : List Lt) (e : Ending) (w' : World) : Prop := e = .returned (.tuple #[]) ∧ w'.ownsRow B 107 2 v L (ltCells D) ∧ w.grownBy w' v.ownBlock
theorem insLots_any (t : List Gd) (D : List Lt) (g cap B bt bm b2 : Nat) (w : World) (h : w.ownsRow B 107 2 (.slice (some ⟨g, 0, none⟩) D.length cap) D.length (ltCells D)) (hl : D.length ≤ 1000000)
    (h2 : w.cell? ⟨b2, 0, none⟩ = some (.pointer (some ⟨bt, 0, none⟩))) (hl2 : b2 < w.heap.size) (htab : Tab w bt bm t) (hn : (codes t).Nodup) (hg2 : b2 ≠ g) (hgt : bt ≠ g) (hgm : bm ≠ g) :
    Calls Tryz.prog 192 #[.slice (some ⟨g, 0, none⟩) D.length cap, .int .i64 (0 : Nat), .int .i64 D.length, .func (.func 143) #[] #[.pointer (some ⟨b2, 0, none⟩)]] w
      (SrtP w B (.slice (some ⟨g, 0, none⟩) D.length cap) D.length (D.foldl (insE (ltOf (cmpO t))) [])) := by
  have hD : (D.toArray).toList = D := by simp
  obtain ⟨hH, hlt⟩ := own_holdsK (d := D.toArray) (by rw [hD]; exact h)
  have eg : ∀ args w, (callFunc 143 args).run Tryz.prog w = .ok (.enter 143 args) w := enters_of Tryz.func143 (by kernel_rfl) rfl
  have hcl : CmpLays Tryz.prog 143 #[.pointer (some ⟨b2, 0, none⟩)] Lt.row 2 (cmpO t) g 0 D.toArray.size w := fun m os dk hdk x y => by
    have hb2 := sortWorld_block (m := m) (dk := dk) (os := os) hl2 hg2
    refine byOrd_any t x y bt bm b2 _ ?_ (Nat.lt_of_lt_of_le hl2 sortWorld_size) ⟨?_, ?_⟩ hn
    · rw [World.cell?_of_block hb2]; exact h2
    · rw [sortWorld_block (lt_blk htab.1) hgt]; exact htab.1
    · exact htab.2.same (sortWorld_block htab.2.lt hgm)
  have hcon := AnyQ.insertionSortCmpFunc Tryz.insLot 2 Tryz.isAgg107 Tryz.sizeOf107 Lt.row (fun _ => rfl) (fun x v hv => by simp [Lt.row] at hv; rcases hv with rfl | rfl <;> rfl) (cmpO t) 143 #[.pointer (some ⟨b2, 0, none⟩)] g 0 cap 0 D.length D.toArray w eg hcl hH hlt (Nat.zero_le _) (by simp) (by simp; omega)
  have hsz : D.toArray.size = D.length := by simp
  rw [hsz] at hcon
  refine hcon.mono ?_
  rintro e w' ⟨rfl, q, os, rfl⟩
  have hmid := insertion_mid (ltOf (cmpO t)) [] D []
  simp only [List.nil_append, List.append_nil, List.length_nil, Nat.zero_add] at hmid
  have hfl : (D.foldl (insE (ltOf (cmpO t))) []).length = D.length := by
    have := (fold_perm (ltOf (cmpO t)) D []).length_eq
    rwa [List.append_nil] at this
  have ho := own_put (m := q) (os := os) (F := flatK Lt.row 2 (insertionSort (ltOf (cmpO t)) D.toArray 0 D.length)) h (by rw [size_flatK, hmid, ltCells_flat, flat_len (sz := 2) _ (lt_rows D)]; simp [hfl])
  rw [flat_lots, hmid] at ho
  rw [hmid]
  refine ⟨rfl, ?_, ho.2⟩
  have h3 := ho.1
  rw [List.toList_toArray] at h3
  exact h3
theorem insNilO_any (w : World) (fv : Value) : Calls Tryz.prog 192 #[.slice none 0 0, .int .i64 0, .int .i64 0, fv] w (fun e w' => e = .returned (.tuple #[]) ∧ w' = w) := by
  go_enter Tryz.func192, Tryz.ntmps192
  go_wp2
  refine wp_loop_rounds 1 ?_
  rw [rounds_succ]
  go_wp2
  go_end0
  exact ⟨rfl, rfl⟩
set_option maxHeartbeats 4000000 in
theorem stableO_any (t : List Gd) (D : List Lt) (v : Value) (B bt bm b2 : Nat) (w : World) (h : w.ownsRow B 107 2 v D.length (ltCells D)) (hl : D.length < 20)
    (h2 : w.cell? ⟨b2, 0, none⟩ = some (.pointer (some ⟨bt, 0, none⟩))) (hl2 : b2 < w.heap.size) (htab : Tab w bt bm t) (hn : (codes t).Nodup) (hne : ∀ g, v.ownBlock = some g → b2 ≠ g ∧ bt ≠ g ∧ bm ≠ g) :
    Calls Tryz.prog 170 #[v, .int .i64 D.length, .func (.func 143) #[] #[.pointer (some ⟨b2, 0, none⟩)]] w (SrtP w B v D.length (D.foldl (insE (ltOf (cmpO t))) [])) := by
  rcases h.2 with ⟨rfl, h0⟩ | ⟨g, cap, cur, rfl, hg, hh, h3, h4, h5, h6⟩
  · obtain rfl : D = [] := List.length_eq_zero_iff.1 h0
    have HN := Lib.hid (fun W => insNilO_any W (.func (.func 143) #[] #[.pointer (some ⟨b2, 0, none⟩)]))
    have HH := Lib.hid h
    clear h hl h0 h2 htab hn hne
    go_enter Tryz.func170, Tryz.ntmps170
    go_wp2_with fail
    refine wp_loop_rounds 1 ?_
    rw [rounds_succ]
    go_wp2_with (first | ((with_reducible refine (HN.out _).mono ?_); rintro e w2 ⟨rfl, rfl⟩) | fail)
    refine wp_loop_rounds 1 ?_
    rw [rounds_succ]
    go_wp2_with fail
    go_end0
    exact ⟨rfl, HH.out, rfl, rfl, rfl, Nat.le_refl _, fun _ _ _ => rfl⟩
  · have hg' := hne g rfl
    have HI := Lib.hid (insLots_any t D g cap B bt bm b2 w h (by omega) h2 hl2 htab hn hg'.1 hg'.2.1 hg'.2.2)
    have t1 : decide ((20 : Int) ≤ (D.length : Int)) = false := decide_eq_false (by omega)
    have t2 : decide (20 ≤ D.length) = false := decide_eq_false (by omega)
    have t3 : decide ((20 : Int) < (D.length : Int)) = false := decide_eq_false (by omega)
    have t4 : decide (20 < D.length) = false := decide_eq_false (by omega)
    generalize D.foldl (insE (ltOf (cmpO t))) [] = E at *
    clear h hh h3 h4 h5 h6 hg h2 htab hn hne hg'
    go_enter Tryz.func170, Tryz.ntmps170
    go_wp2_with fail
    refine wp_loop_rounds 1 ?_
    rw [rounds_succ]
    go_wp2_with (first
      | (refine HI.out.mono ?_; rintro e w2 ⟨rfl, ho2, hg2⟩; have HO2 := Lib.hid ho2; have HG2 := Lib.hid hg2; clear ho2 hg2)
      | fail)
    refine wp_loop_rounds 1 ?_
    rw [rounds_succ]
    go_wp2_with fail
    go_end0
    exact ⟨rfl, HO2.out, HG2.out⟩
theorem sortStableO_any (t : List Gd) (D : List Lt) (v : Value) (B bt bm b2 : Nat) (w : World) (h : w.ownsRow B 107 2 v D.length (ltCells D)) (hl : D.length < 20)
    (h2 : w.cell? ⟨b2, 0, none⟩ = some (.pointer (some ⟨bt, 0, none⟩))) (hl2 : b2 < w.heap.size) (htab : Tab w bt bm t) (hn : (codes t).Nodup) (hne : ∀ g, v.ownBlock = some g → b2 ≠ g ∧ bt ≠ g ∧ bm ≠ g) :
    Calls Tryz.prog 142 #[v, .func (.func 143) #[] #[.pointer (some ⟨b2, 0, none⟩)]] w (SrtP w B v D.length (D.foldl (insE (ltOf (cmpO t))) [])) := by
  obtain ⟨a, c, rfl⟩ : ∃ a c, v = .slice a D.length c := by simpa using (own_lots h rfl).shape
  have HS := Lib.hid (stableO_any t D _ B bt bm b2 w h hl h2 hl2 htab hn hne)
  generalize D.foldl (insE (ltOf (cmpO t))) [] = E at *
  have hll : D.length < 20 := hl
  clear h hl h2 htab hn hne
  go_enter Tryz.func142, Tryz.ntmps142
  go_wp2_with (first
    | ((with_reducible refine HS.out.mono ?_); rintro e w2 ⟨rfl, ho2, hg2⟩; have HO2 := Lib.hid ho2; have HG2 := Lib.hid hg2; clear ho2 hg2)
    | fail)
  go_end0
  exact ⟨rfl, HO2.out, HG2.out⟩
set_option maxHeartbeats 4000000 in
theorem order_any (t : List Gd) (l : List Lt) (bt bm : Nat) (v : Value) (w : World) (hs : Sl w 2 v (l.map Lt.row)) (hl : l.length < 20) (htab : Tab w bt bm t) (hn : (codes t).Nodup) (hin : AllIn t l) :
    Calls Tryz.prog 82 #[.pointer (some ⟨bt, 0, none⟩), v] w (RetRow w 107 2 (ordL t l).length (ltCells (ordL t l))) := by
  have hjl := joinL_length l
  have HB0 := Lib.hid (one_below w (.cells #[.pointer (some ⟨bt, 0, none⟩)] 85))
  have HX2 := Lib.hid (heap_alloc_new w (.cells #[.pointer (some ⟨bt, 0, none⟩)] 85))
  have HJ := Lib.hid (join_any l v (w.alloc (.cells #[.pointer (some ⟨bt, 0, none⟩)] 85)) (hs.below HB0.out (Nat.le_refl _)) (by omega) (fun x hx => by have := lot_range (hin x hx).1; omega))
  have hlen : (ordL t l).length = (joinL l).length := (ordL_perm t l).length_eq
  have HST := Lib.hid (fun (W : World) (v : Value) (hb : Below (w.alloc (.cells #[.pointer (some ⟨bt, 0, none⟩)] 85)).heap.size (w.alloc (.cells #[.pointer (some ⟨bt, 0, none⟩)] 85)) W) (ho : W.ownsRow (w.alloc (.cells #[.pointer (some ⟨bt, 0, none⟩)] 85)).heap.size 107 2 v (joinL l).length (ltCells (joinL l))) => (by
    have hbw := HB0.out.trans (hb.mono (by simp))
    have hx := blk hb (lt_blk HX2.out) HX2.out
    have h1 := sortStableO_any t (joinL l) v _ bt bm w.heap.size W ho (by omega) (cell_blk hx 0) (lt_blk hx) (htab.below hbw) hn (fun g hg => by
      have h1 := (ho.lt g hg).1
      have h2 := lt_blk htab.1
      have h3 := htab.2.lt
      simp at h1
      omega)
    rw [foldE_ord hin, ← hlen] at h1
    exact h1 : Calls Tryz.prog 142 #[v, .func (.func 143) #[] #[.pointer (some ⟨w.heap.size, 0, none⟩)]] W (SrtP W (w.alloc (.cells #[.pointer (some ⟨bt, 0, none⟩)] 85)).heap.size v (ordL t l).length (ordL t l))))
  generalize ordL t l = E at *
  generalize joinL l = J at *
  clear hs htab hn hin hjl hlen
  go_enter Tryz.func82, Tryz.ntmps82
  go_wp2_with (first
    | ((with_reducible refine HJ.out.mono ?_); rintro e w1 ⟨v1, rfl, ho1, hb1⟩; have HO1 := Lib.hid ho1; have HB1 := Lib.hid hb1; clear ho1 hb1)
    | ((with_reducible refine (HST.out _ _ HB1.out HO1.out).mono ?_); rintro e w2 ⟨rfl, ho2, hg2⟩; have HO2 := Lib.hid ho2; have HB2 := Lib.hid ((HB0.out.trans (HB1.out.mono (by simp))).grown hg2 (by have := HB1.out.size; simp at this; omega) (fun k hk => Nat.le_of_succ_le (by have := (HO1.out.lt k hk).1; simpa using this))); clear ho2 hg2)
    | fail)
  go_ret
  exact ⟨v1, rfl, ownsRow_base HO2.out (by simp), HB2.out⟩
end Go.Proofs.YtbigoifpfkdkjaaGreatDoor.Sc
