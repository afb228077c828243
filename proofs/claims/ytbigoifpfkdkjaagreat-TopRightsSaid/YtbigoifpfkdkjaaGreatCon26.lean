/- slices.ContainsFunc at pledges, whatever the closure asks. -/
import Derived.Test.YtbigoifpfkdkjaaGreatLn26
import Derived.Test.YtbigoifpfkdkjaaGreatLaw
import Derived.Test.YtbigoifpfkdkjaaGreatMap
import Derived.Shelf.Abstract
namespace Go.Proofs.YtbigoifpfkdkjaaGreat.Sc
open Go Go.RowKit Go.ChangeShapes Go.WideShapes Go.ChangeAt
set_option maxRecDepth 100000

theorem infoPg : (Tryz.prog.info? 27).map (fun i => (i.zero, i.size, i.bytes)) = some (some (.agg #[.string ⟨#[]⟩, .string ⟨#[]⟩, .string ⟨#[]⟩, .int .i64 0, .int .i64 0, .bool false]), 6, 72) := by kernel_rfl
theorem pgCells_flat (l : List Pg) : pgCells l = (l.map Pg.row).flatten := by rw [pgCells, List.flatMap_def]
theorem pg_rows (l : List Pg) : ∀ r ∈ l.map Pg.row, r.length = 6 := by
  intro r hr
  obtain ⟨b, -, rfl⟩ := List.mem_map.1 hr
  rfl
theorem pgCells_append (a b : List Pg) : pgCells (a ++ b) = pgCells a ++ pgCells b := by simp [pgCells]
theorem pg_one (p : Pg) : ∀ u ∈ p.cells.toList, u.oneCell' = true := by
  intro u hu
  simp [Pg.cells] at hu
  rcases hu with rfl | rfl | rfl | rfl | rfl | rfl <;> rfl
theorem pgCells_one (l : List Pg) : ∀ u ∈ pgCells l, u.oneCell' = true := by
  intro u hu
  obtain ⟨x, _, h⟩ := List.mem_flatMap.1 hu
  exact pg_one x u h
theorem own_pgs {w : World} {B n : Nat} {v : Value} {l : List Pg} (h : w.ownsRow B 27 6 v n (pgCells l)) (hn : n = l.length) : Sl w 6 v (l.map Pg.row) := by
  rw [pgCells_flat] at h
  exact own_sl h (by simpa using hn) (pg_rows l)
theorem src_pgs {w : World} {v : Value} {l : List Pg} (h : Sl w 6 v (l.map Pg.row)) : Src w 6 v l.length (pgCells l) := by
  have := h.src (pg_rows l) (by decide)
  rw [pgCells_flat]
  simpa using this
/-- What a pledge in a row reads. -/
def PgAt (w : World) (b o : Nat) (p : Pg) : Prop :=
  w.cell? ⟨b, o, none⟩ = some (.string p.thing) ∧ w.cell? ⟨b, o + 1, none⟩ = some (.string p.debtor) ∧ w.cell? ⟨b, o + 2, none⟩ = some (.string p.cred) ∧ w.cell? ⟨b, o + 3, none⟩ = some (.int .i64 p.day) ∧ w.cell? ⟨b, o + 4, none⟩ = some (.int .i64 p.amt) ∧ w.cell? ⟨b, o + 5, none⟩ = some (.bool p.held)
theorem pg_at {w : World} {a : Option Addr} {n c : Nat} {l : List Pg} (h : Sl w 6 (.slice a n c) (l.map Pg.row)) {k : Nat} (hk : k < l.length) : ∃ b off, a = some ⟨b, off, none⟩ ∧ b < w.heap.size ∧ PgAt w b (off + k * 6) l[k] := by
  obtain ⟨b, off, e, -, hb, hc⟩ := h.at (i := k) (by simpa using hk)
  have hr := hc k l[k].row (by rw [List.getElem?_map, List.getElem?_eq_getElem hk]; rfl)
  exact ⟨b, off, e, hb, hr 0 _ rfl, hr 1 _ rfl, hr 2 _ rfl, hr 3 _ rfl, hr 4 _ rfl, hr 5 _ rfl⟩
theorem PgAt.below {w w' : World} {b o B : Nat} {p : Pg} (h : PgAt w b o p) (hb : b < B) (hw : Below B w w') : PgAt w' b o p := by
  obtain ⟨h0, h1, h2, h3, h4, h5⟩ := h
  exact ⟨(hw.cell (p := ⟨b, o, none⟩) hb).trans h0, (hw.cell (p := ⟨b, o + 1, none⟩) hb).trans h1, (hw.cell (p := ⟨b, o + 2, none⟩) hb).trans h2, (hw.cell (p := ⟨b, o + 3, none⟩) hb).trans h3, (hw.cell (p := ⟨b, o + 4, none⟩) hb).trans h4, (hw.cell (p := ⟨b, o + 5, none⟩) hb).trans h5⟩
theorem any_dropG {α : Type} {l : List α} {k : Nat} (h : k < l.length) (f : α → Bool) : (l.drop k).any f = (f l[k] || (l.drop (k + 1)).any f) := by rw [List.drop_eq_getElem_cons h, List.any_cons]
def IdxP (w : World) (b : Bool) (e : Ending) (w' : World) : Prop := ∃ i : Int, e = .returned (.int .i64 i) ∧ decide (0 ≤ i) = b ∧ Below w.heap.size w w'
set_option maxHeartbeats 4000000 in
theorem index_any (f : Pg → Bool) (g : Nat) (cb : Array Value) (l : List Pg) (v : Value) (w : World) (hs : Sl w 6 v (l.map Pg.row)) (eg : ∀ args w, (callFunc g args).run Tryz.prog w = .ok (.enter g args) w)
    (hcl : ∀ W (x : Pg), Below w.heap.size w W → Calls Tryz.prog g (#[.agg x.cells] ++ cb) W (RetB W (f x))) :
    Calls Tryz.prog 32 #[v, .func (.func g) #[] cb] w (IdxP w (l.any f)) := by
  obtain ⟨a, c, rfl⟩ : ∃ a c, v = .slice a l.length c := by simpa using hs.shape
  have hll : l.length ≤ 9223372036854775807 := by have := hs.len_le; simp only [List.length_map, maxLen] at this; omega
  have HS := Lib.hid hs
  have HCL := Lib.hid hcl
  clear hs hcl
  go_enter Tryz.func32, Tryz.ntmps32
  go_wp2_with fail
  go_loopw [5, 8] (fun _ i wr => ∃ k : Nat, k ≤ l.length ∧ i = .int .i64 k ∧ l.any f = (l.drop k).any f ∧ Below w.heap.size w wr) (fun _ i _ => l.length - (intOf i).toNat)
  case atStart => exact ⟨0, Nat.zero_le _, rfl, rfl, Below.refl _ _⟩
  case round =>
    obtain ⟨k, hk, rfl, hrel, hbel⟩ := hrel
    have HBEL := Lib.hid hbel
    by_cases hlt : k < l.length
    · obtain ⟨b, off, rfl, hb, hp⟩ := pg_at HS.out hlt
      obtain ⟨d0, d1, d2, d3, d4, d5⟩ := hp.below hb hbel
      rw [any_dropG hlt] at hrel
      generalize l[k] = x at *
      obtain ⟨xt, xd, xc, xy, xa, xh⟩ := x
      simp only at d0 d1 d2 d3 d4 d5
      have HC := Lib.hid (HCL.out wr ⟨xt, xd, xc, xy, xa, xh⟩ hbel)
      have tk : ((k : Nat) : Int) < (l.length : Int) := by omega
      clear hb hp hbel
      generalize hr : f ⟨xt, xd, xc, xy, xa, xh⟩ = r at *
      clear hr
      cases r
      · have HR := Lib.hid hrel
        clear hrel
        go_wp2_with (first
          | (go_at_fn g; refine HC.out.mono ?_; rintro e w2 ⟨rfl, hb2⟩; have HB2 := Lib.hid (HBEL.out.trans (hb2.mono HBEL.out.size)); clear hb2)
          | fail)
        go_roundw
        case rel => exact ⟨k + 1, by omega, by go_num, by rw [HR.out]; rfl, HB2.out⟩
        case measure => (simp [intOf]) <;> omega
      · have HR := Lib.hid hrel
        clear hrel
        go_wp2_with (first
          | (go_at_fn g; refine HC.out.mono ?_; rintro e w2 ⟨rfl, hb2⟩; have HB2 := Lib.hid (HBEL.out.trans (hb2.mono HBEL.out.size)); clear hb2)
          | fail)
        go_ret
        exact ⟨k, rfl, by rw [HR.out]; simp, HB2.out⟩
    · have HE : Hid (l.any f = false) := Lib.hid (by rw [hrel, List.drop_of_length_le (by omega)]; rfl)
      clear hrel hbel hk
      go_wp2_with fail
      go_ret
      exact ⟨-1, rfl, by rw [HE.out]; rfl, HBEL.out⟩
theorem contains_any (f : Pg → Bool) (g : Nat) (cb : Array Value) (l : List Pg) (v : Value) (w : World) (hs : Sl w 6 v (l.map Pg.row)) (eg : ∀ args w, (callFunc g args).run Tryz.prog w = .ok (.enter g args) w)
    (hcl : ∀ W (x : Pg), Below w.heap.size w W → Calls Tryz.prog g (#[.agg x.cells] ++ cb) W (RetB W (f x))) :
    Calls Tryz.prog 14 #[v, .func (.func g) #[] cb] w (RetB w (l.any f)) := by
  have HI := Lib.hid (index_any f g cb l v w hs eg hcl)
  clear hs hcl eg
  go_enter Tryz.func14, Tryz.ntmps14
  go_wp2_with (first
    | ((with_reducible refine HI.out.mono ?_); rintro e w2 ⟨i, rfl, hi, hb2⟩; have HB2 := Lib.hid hb2; have HQ := Lib.hid hi; clear hb2 hi)
    | fail)
  go_ret
  exact ⟨by rw [← HQ.out]; rfl, HB2.out⟩
end Go.Proofs.YtbigoifpfkdkjaaGreat.Sc
