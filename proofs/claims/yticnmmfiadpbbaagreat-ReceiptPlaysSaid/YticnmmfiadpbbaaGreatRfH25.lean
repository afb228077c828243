/- The document's house in memory; who owns a receipt; whether two receipts are one. -/
import Derived.Test.YticnmmfiadpbbaaGreatRfT25
namespace Go.Proofs.YticnmmfiadpbbaaGreat.Sc
open Go Go.RowKit Go.ChangeShapes Go.WideShapes Go.ChangeAt
set_option maxRecDepth 100000

/-- A value that reads as the document's house. -/
def RefH (w : World) (x : Value) (h : Hs) : Prop :=
  ∃ (M : List Rv) (vL vU : Value), x = .agg #[.string h.name, vL, vU] ∧ rcsOf M = h.L ∧ Sl w 5 vL (M.map Rv.row) ∧ (∀ y ∈ M, RvOk w y) ∧ Sl w 1 vU (h.used.map stRow)
theorem RefH.below {w w' : World} {x : Value} {h : Hs} (r : RefH w x h) (hb : Below w.heap.size w w') : RefH w' x h := by
  obtain ⟨M, vL, vU, rfl, h1, h2, h3, h4⟩ := r
  exact ⟨M, vL, vU, rfl, h1, h2.below hb (Nat.le_refl _), fun y hy => Sl.below (h3 y hy) hb (Nat.le_refl _), h4.below hb (Nat.le_refl _)⟩
def HouseP (w : World) (h : Hs) (c : Int) (e : Ending) (w' : World) : Prop := Below w.heap.size w w' ∧ ∃ x, e = .returned (.tuple #[x, .int .i64 c]) ∧ RefH w' x h
/-- Two boxes of a house each: the argument's and the result's. -/
structure Two (w wr : World) (a b : Array Value) : Prop where
  bel : Below w.heap.size w wr
  bx : wr.heap[w.heap.size]? = some (.cells a 29 (0, 0))
  br : wr.heap[w.heap.size + 1]? = some (.cells b 29 (0, 0))
theorem Two.lt {w wr : World} {a b : Array Value} (t : Two w wr a b) : w.heap.size + 1 < wr.heap.size := lt_blk t.br
theorem Two.below {w wr w' : World} {a b : Array Value} (t : Two w wr a b) (hb : Below wr.heap.size wr w') : Two w w' a b :=
  ⟨t.bel.trans (hb.mono t.bel.size), blk hb (lt_blk t.bx) t.bx, blk hb (lt_blk t.br) t.br⟩
theorem Two.row {w wr : World} {a b c : Array Value} (t : Two w wr a b) : Two w (wr.setRow (w.heap.size + 1) c) a c :=
  ⟨below_setRow t.bel (by omega) _, by have := t.bx; simp [World.setRow, Array.getElem?_modify, this], setRow_at t.br⟩
def zeroHs : Array Value := #[.string ⟨#[]⟩, .slice none 0 0, .slice none 0 0]
theorem Two.start (w : World) (a : Array Value) : Two w ((w.alloc (.cells a 29)).alloc (.cells zeroHs 29)) a zeroHs := by
  have e1 : (w.alloc (.cells a 29)).heap.size = w.heap.size + 1 := by simp
  refine ⟨(one_below w _).alloc (by simp) _, ?_, ?_⟩
  · rw [heap_alloc_old _ _ (show w.heap.size < _ by rw [e1]; omega)]; exact heap_alloc_new _ _
  · have := heap_alloc_new (w.alloc (.cells a 29)) (.cells zeroHs 29)
    rwa [e1] at this
theorem set_three {w : World} {b : Nat} {x0 x1 x2 u : Value} {T : TypeId} (h : w.heap[b]? = some (.cells #[x0, x1, x2] T (0, 0))) : (w.setCell ⟨b, 1, none⟩ u).heap[b]? = some (.cells #[x0, u, x2] T (0, 0)) := by
  simp [World.setCell, Array.getElem?_modify, h]
theorem set_three2 {w : World} {b : Nat} {x0 x1 x2 u : Value} {T : TypeId} (h : w.heap[b]? = some (.cells #[x0, x1, x2] T (0, 0))) : (w.setCell ⟨b, 2, none⟩ u).heap[b]? = some (.cells #[x0, x1, u] T (0, 0)) := by
  simp [World.setCell, Array.getElem?_modify, h]
theorem Two.set1 {w wr : World} {x0 x1 x2 u : Value} {b : Array Value} (t : Two w wr #[x0, x1, x2] b) : Two w (wr.setCell ⟨w.heap.size, 1, none⟩ u) #[x0, u, x2] b :=
  ⟨(set_keep wr _ _ _).behind t.bel t.bel.size (fun k hk e => by omega), set_three t.bx, (set_keep wr _ _ _).blk t.br (fun e => by omega)⟩
theorem Two.set2 {w wr : World} {x0 x1 x2 u : Value} {b : Array Value} (t : Two w wr #[x0, x1, x2] b) : Two w (wr.setCell ⟨w.heap.size, 2, none⟩ u) #[x0, x1, u] b :=
  ⟨(set_keep wr _ _ _).behind t.bel t.bel.size (fun k hk e => by omega), set_three2 t.bx, (set_keep wr _ _ _).blk t.br (fun e => by omega)⟩
theorem Two.cells {w wr : World} {x0 x1 x2 : Value} {b : Array Value} (t : Two w wr #[x0, x1, x2] b) : wr.cell? ⟨w.heap.size, 0, none⟩ = some x0 ∧ wr.cell? ⟨w.heap.size, 1, none⟩ = some x1 ∧ wr.cell? ⟨w.heap.size, 2, none⟩ = some x2 :=
  ⟨cell_blk t.bx 0, cell_blk t.bx 1, cell_blk t.bx 2⟩
theorem house_one {a b : Option Addr} {nm : ByteArray} {n c m d : Nat} : (#[Value.string nm, .slice a n c, .slice b m d] : Array Value).all (·.oneCell') = true := by simp [Value.oneCell']
theorem HouseP.same {w w' : World} {h h' : Hs} {M : List Rv} {vL vU : Value} {c c' : Int} {nm : ByteArray} (hb : Below w.heap.size w w') (hnm : nm = h.name) (h1 : rcsOf M = h.L) (h2 : Sl w 5 vL (M.map Rv.row)) (h3 : ∀ y ∈ M, RvOk w y) (h4 : Sl w 1 vU (h.used.map stRow)) (hc : c = c') (hh : h' = h) :
    HouseP w h' c (.returned (.tuple #[.agg #[.string nm, vL, vU], .int .i64 c'])) w' := by
  subst hc hh hnm
  exact ⟨hb, _, rfl, RefH.below ⟨M, vL, vU, rfl, h1, h2, h3, h4⟩ hb⟩
theorem setRow_keep (w : World) (g : Nat) (cs : Array Value) : Keep (fun k => k = g) w (w.setRow g cs) :=
  ⟨rfl, rfl, rfl, by simp [World.setRow], fun k _ hne => by
    have : ¬ g = k := fun e => hne e.symm
    simp [World.setRow, Array.getElem?_modify, this]⟩
/-- A row made behind the two boxes stays, whatever is laid into them. -/
theorem own_two {w wr w' : World} {B n : Nat} {v : Value} {M : List Rv} (h : wr.ownsRow B 34 5 v n (rvCells M)) (hn : n = M.length) (hB : w.heap.size + 1 < B) (k : Keep (fun b => b = w.heap.size ∨ b = w.heap.size + 1) wr w') : Sl w' 5 v (M.map Rv.row) :=
  own_rvs (ownsRow_keep h k (fun b hb e => by have := (h.lt b hb).1; omega)) hn
set_option maxHeartbeats 4000000 in
theorem refOwn_any {h : Hs} (x : Value) (n b : ByteArray) (w : World) (r : RefH w x h) : Calls Tryz.prog 77 #[x, .string n, .string b] w (Ret w (.int .i64 (ownC h n b))) := by
  obtain ⟨M, vL, vU, rfl, h1, h2, h3, h4⟩ := r
  obtain ⟨nm, hnm⟩ : ∃ nm, nm = h.name := ⟨_, rfl⟩
  rw [← hnm]
  have HGE := Lib.hid (fun W (hW : Below w.heap.size w W) => refGet_any M nm n vL vU W (h2.below hW (Nat.le_refl _)) (fun y hy => Sl.below (h3 y hy) hW (Nat.le_refl _)))
  have HOK := Lib.hid h3
  have HEQ := Lib.hid h1
  obtain ⟨aL, cL, rfl⟩ : ∃ a c, vL = .slice a M.length c := by simpa using h2.shape
  obtain ⟨aU, cU, rfl⟩ : ∃ a c, vU = .slice a h.used.length c := by simpa using h4.shape
  obtain ⟨uL, huL⟩ : ∃ u, u = h.used.length := ⟨_, rfl⟩
  rw [← huL] at HGE ⊢
  have HB1 := Lib.hid (one_below w (.cells #[.string nm, .slice aL M.length cL, .slice aU uL cU] 29))
  have HOC : Hid (ownC h n b = match rfind h.L n with | none => 4 | some r => if r.hold = b then 0 else 8) := Lib.hid rfl
  generalize hC : ownC h n b = C at *
  clear hC h1 h2 h3 h4 hnm huL
  go_enter Tryz.func77, Tryz.ntmps77
  go_wp2_with fail
  refine (HGE.out _ HB1.out).mono ?_
  rintro e w1 ⟨hb1, hcase⟩
  have HBW := Lib.hid (HB1.out.trans (hb1.mono HB1.out.size))
  clear hb1 HGE
  rcases hcase with ⟨hf, rfl⟩ | ⟨⟨⟨xn, xh, xo, xl, xd⟩, xv⟩, hmem, hf, rfl⟩
  · rw [HEQ.out] at hf
    have HQ : Hid (C = 4) := Lib.hid (by rw [HOC.out, hf])
    unfold zeroRv
    clear hf
    go_wp2_with fail
    go_ret
    exact ⟨by rw [HQ.out]; rfl, HBW.out.alloc HBW.out.size _⟩
  · rw [HEQ.out] at hf
    obtain ⟨ax, cx, hxv⟩ := (HOK.out _ hmem).shape
    simp only [List.length_map] at hxv
    subst hxv
    simp only [Rv.cells]
    have HXO : Hid (C = if xo = b then 0 else 8) := Lib.hid (by rw [HOC.out, hf])
    clear hf hmem
    by_cases hx : xo = b
    · have t1 := str_yes hx
      have HQ : Hid (C = 0) := Lib.hid (by rw [HXO.out, if_pos hx])
      clear hx
      go_wp2_with fail
      go_ret
      exact ⟨by rw [HQ.out]; rfl, HBW.out.alloc HBW.out.size _⟩
    · have t1 := str_no hx
      have HQ : Hid (C = 8) := Lib.hid (by rw [HXO.out, if_neg hx])
      clear hx
      go_wp2_with fail
      go_ret
      exact ⟨by rw [HQ.out]; rfl, HBW.out.alloc HBW.out.size _⟩
/-- Are two receipts one? -/
def oneB (x y : Rc) : Bool := decide (x.num = y.num) && (decide (x.house = y.house) && (decide (x.hold = y.hold) && (decide (x.day = y.day) && sameL x.lots y.lots)))
theorem oneB_self (x : Rc) : oneB x x = true := by simp [oneB, sameL_iff]
set_option maxHeartbeats 8000000 in
theorem refOne_any (x y : Rv) (w : World) (hx : RvOk w x) (hy : RvOk w y) : Calls Tryz.prog 9 #[.agg x.cells, .agg y.cells] w (RetB w (oneB x.rc y.rc)) := by
  obtain ⟨⟨xn, xh, xo, xl, xd⟩, xv⟩ := x
  obtain ⟨⟨yn, yh, yo, yl, yd⟩, yv⟩ := y
  have HSA := Lib.hid (fun W (hW : Below w.heap.size w W) => refSameL_any xl yl xv yv W (Sl.below hx hW (Nat.le_refl _)) (Sl.below hy hW (Nat.le_refl _)))
  obtain ⟨ax, cx, hxv⟩ := hx.shape
  obtain ⟨ay, cy, hyv⟩ := hy.shape
  simp only [List.length_map] at hxv hyv
  subst hxv
  subst hyv
  rw [← sameL_eq] at HSA
  simp only [Rv.cells]
  have HR : Hid (oneB ⟨xn, xh, xo, xl, xd⟩ ⟨yn, yh, yo, yl, yd⟩ = (decide (xn = yn) && (decide (xh = yh) && (decide (xo = yo) && (decide (xd = yd) && sameL xl yl))))) := Lib.hid rfl
  generalize oneB ⟨xn, xh, xo, xl, xd⟩ ⟨yn, yh, yo, yl, yd⟩ = R at *
  generalize sameL xl yl = S at *
  have HB2 : Hid (Below w.heap.size w ((w.alloc (.cells #[.string xn, .string xh, .string xo, .slice ax xl.length cx, .int .i64 xd] 34)).alloc (.cells #[.string yn, .string yh, .string yo, .slice ay yl.length cy, .int .i64 yd] 34))) := Lib.hid ((one_below w _).alloc (by simp) _)
  clear hx hy
  by_cases h1 : xn = yn
  rotate_left
  · have t1 := str_no h1
    have HQ : Hid (R = false) := Lib.hid (by rw [HR.out, decide_eq_false h1]; rfl)
    clear h1
    go_enter Tryz.func9, Tryz.ntmps9
    go_wp2_with fail
    go_ret
    exact retB HQ.out.symm HB2.out
  have t1 := str_yes h1
  rw [decide_eq_true h1, Bool.true_and] at HR
  clear h1
  by_cases h2 : xh = yh
  rotate_left
  · have t2 := str_no h2
    have HQ : Hid (R = false) := Lib.hid (by rw [HR.out, decide_eq_false h2]; rfl)
    clear h2
    go_enter Tryz.func9, Tryz.ntmps9
    go_wp2_with fail
    go_ret
    exact retB HQ.out.symm HB2.out
  have t2 := str_yes h2
  rw [decide_eq_true h2, Bool.true_and] at HR
  clear h2
  by_cases h3 : xo = yo
  rotate_left
  · have t3 := str_no h3
    have HQ : Hid (R = false) := Lib.hid (by rw [HR.out, decide_eq_false h3]; rfl)
    clear h3
    go_enter Tryz.func9, Tryz.ntmps9
    go_wp2_with fail
    go_ret
    exact retB HQ.out.symm HB2.out
  have t3 := str_yes h3
  rw [decide_eq_true h3, Bool.true_and] at HR
  clear h3
  by_cases h4 : xd = yd
  rotate_left
  · have t4 : (xd == yd) = false := by simp [h4]
    have HQ : Hid (R = false) := Lib.hid (by rw [HR.out, decide_eq_false h4]; rfl)
    clear h4
    go_enter Tryz.func9, Tryz.ntmps9
    go_wp2_with fail
    go_ret
    exact retB HQ.out.symm HB2.out
  have t4 : (xd == yd) = true := by simp [h4]
  rw [decide_eq_true h4, Bool.true_and] at HR
  clear h4
  go_enter Tryz.func9, Tryz.ntmps9
  go_wp2_with (first
    | ((with_reducible refine (HSA.out _ HB2.out).mono ?_); rintro e w3 ⟨rfl, hb3⟩; have HB3 := Lib.hid (HB2.out.trans (hb3.mono HB2.out.size)); clear hb3)
    | fail)
  go_ret
  exact retB HR.out.symm HB3.out
end Go.Proofs.YticnmmfiadpbbaaGreat.Sc
