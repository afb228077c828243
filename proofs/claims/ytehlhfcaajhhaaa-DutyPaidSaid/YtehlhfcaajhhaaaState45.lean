/- The reference's box of another state; Release, Transit, Export. -/
import Derived.Test.YtehlhfcaajhhaaaDueR45
import Derived.Test.YtehlhfcaajhhaaaGrow
namespace Go.Proofs.Ytehlhfcaajhhaaa.Sc
open Go Go.RowKit Go.ChangeShapes Go.WideShapes Go.ChangeAt
set_option maxRecDepth 100000

def Bx.to (b : Bx) (st : Int) : Bx := ⟨b.name, b.duty, b.day, st⟩
def bxCells (l : List Bx) : List Value := l.flatMap Bx.row
theorem bxCells_flat (l : List Bx) : bxCells l = (l.map Bx.row).flatten := by rw [bxCells, List.flatMap_def]
theorem bxCells_append (a b : List Bx) : bxCells (a ++ b) = bxCells a ++ bxCells b := by simp [bxCells]
theorem bx_rows (l : List Bx) : ∀ r ∈ l.map Bx.row, r.length = 4 := by
  intro r hr
  obtain ⟨b, -, rfl⟩ := List.mem_map.1 hr
  rfl
theorem bxCells_one (l : List Bx) : ∀ u ∈ bxCells l, u.oneCell' = true := by
  intro u hu
  obtain ⟨b, -, h⟩ := List.mem_flatMap.1 hu
  simp only [Bx.row, List.mem_cons, List.not_mem_nil, or_false] at h
  rcases h with rfl | rfl | rfl | rfl <;> rfl
theorem infoBx : (Try.prog.info? 45).map (fun i => (i.zero, i.size, i.bytes)) = some (some (.agg #[.string ⟨#[]⟩, .int .i64 0, .int .i64 0, .int .i64 0]), 4, 40) := by kernel_rfl
theorem own_boxes {w : World} {B n : Nat} {v : Value} {l : List Bx} (h : w.ownsRow B 45 4 v n (bxCells l)) (hn : n = l.length) : Sl w 4 v (l.map Bx.row) := by
  rw [bxCells_flat] at h
  exact own_sl h (by simpa using hn) (bx_rows l)
/-- A new row of boxes comes back; old memory stays. -/
def BoxesP (w : World) (l : List Bx) (e : Ending) (w' : World) : Prop := ∃ v, e = .returned v ∧ Sl w' 4 v (l.map Bx.row) ∧ Below w.heap.size w w' ∧ ∀ b, v.ownBlock = some b → w.heap.size ≤ b ∧ b < w'.heap.size
theorem own_pos {w : World} {B sz n : Nat} {e : TypeId} {v : Value} {xs : List Value} (h : w.ownsRow B e sz v n xs) (hn : 0 < n) : ∃ g cap cur, v = .slice (some ⟨g, 0, none⟩) n cap ∧ w.heap[g]? = some (.cells cur e (0, 0)) ∧ B ≤ g := by
  rcases h.2 with ⟨_, h0⟩ | ⟨g, cap, cur, rfl, hg, hh, _⟩
  · omega
  · exact ⟨g, cap, cur, rfl, hh, hg⟩
/-- One cell of a row written. -/
theorem sl_set {w : World} {g sz n cap i j : Nat} {rows : List (List Value)} {u : Value} (h : Sl w sz (.slice (some ⟨g, 0, none⟩) n cap) rows) (hr : ∀ r ∈ rows, r.length = sz) (hi : i < rows.length) (hj : j < sz) :
    Sl (w.setCell ⟨g, i * sz + j, none⟩ u) sz (.slice (some ⟨g, 0, none⟩) n cap) (rows.set i (rows[i].set j u)) := by
  rcases h with ⟨rfl, _⟩ | ⟨b, off, cap', hv, hb, h1, h2, hc⟩
  · simp at hi
  · simp only [Value.slice.injEq, Option.some.injEq, Addr.mk.injEq, and_true] at hv
    obtain ⟨⟨rfl, rfl⟩, rfl, rfl⟩ := hv
    refine .inr ⟨g, 0, cap, by simp, by simpa [World.setCell] using hb, by simpa using h1, h2, fun i' r hr' j' u' hu' => ?_⟩
    have hlr : (rows[i]'hi).length = sz := hr _ (List.getElem_mem hi)
    rw [List.getElem?_set] at hr'
    by_cases hii : i = i'
    · subst hii
      rw [if_pos rfl, if_pos hi] at hr'
      obtain rfl : rows[i].set j u = r := Option.some.inj hr'
      rw [List.getElem?_set] at hu'
      by_cases hjj : j = j'
      · subst hjj
        rw [if_pos rfl, if_pos (by omega)] at hu'
        obtain rfl : u = u' := Option.some.inj hu'
        have hold := hc i rows[i] (by simp [hi]) j ((rows[i])[j]'(by omega)) (by simp)
        rw [Nat.zero_add] at hold ⊢
        exact World.cell?_setCell_same w _ _ hold
      · rw [if_neg hjj] at hu'
        rw [World.cell?_setCell_other w _ _ _ (by intro e; simp only [Addr.mk.injEq, and_true, true_and] at e; omega)]
        exact hc i rows[i] (by simp [hi]) j' u' hu'
    · rw [if_neg hii] at hr'
      have hj' : j' < sz := by rw [← hr r (List.mem_of_getElem? hr')]; exact (List.getElem?_eq_some_iff.1 hu').1
      rw [World.cell?_setCell_other w _ _ _ (by
        intro e
        simp only [Addr.mk.injEq, and_true, true_and, Nat.zero_add] at e
        have h3 : (i * sz + j) / sz = i := by rw [Nat.mul_comm, Nat.mul_add_div (by omega), Nat.div_eq_of_lt hj]; rfl
        have h4 : (i' * sz + j') / sz = i' := by rw [Nat.mul_comm, Nat.mul_add_div (by omega), Nat.div_eq_of_lt hj']; rfl
        rw [e] at h3
        exact hii (h3.symm.trans h4))]
      exact hc i' r hr' j' u' hu'
theorem bx_set (l : List Bx) (j : Nat) (hj : j < l.length) (st : Int) : (l.map Bx.row).set j (((l.map Bx.row)[j]'(by simpa using hj)).set 3 (.int .i64 st)) = (l.set j (l[j].to st)).map Bx.row := by
  rw [List.map_set]
  congr 1
  simp [Bx.row, Bx.to]
set_option maxHeartbeats 4000000 in
theorem refState_any (l : List Bx) (j : Nat) (hj : j < l.length) (st : Int) (v : Value) (w : World) (hs : Sl w 4 v (l.map Bx.row)) (hl : l.length ≤ 4000) :
    Calls Try.prog 58 #[v, .int .i64 (j : Int), .int .i64 st] w (BoxesP w (l.set j (l[j].to st))) := by
  obtain ⟨i0, hi, hz, hsz, hby⟩ := info_parts infoBx
  have HI := Lib.hid (And.intro hi (And.intro hz (And.intro hsz hby)))
  clear hi hz hsz hby
  obtain ⟨a, c, rfl⟩ : ∃ a c, v = .slice a l.length c := by simpa using hs.shape
  have HL : Hid (0 + l.length ≤ maxLen ∧ (0 + l.length) * 40 ≤ 140737488355328) := Lib.hid (by simp only [maxLen]; omega)
  have HSRC : Hid (Src (w.alloc (.cells #[] 45)) 4 (.slice a l.length c) l.length (bxCells l)) := Lib.hid (by
    have := (hs.below (one_below w (.cells #[] 45)) (Nat.le_refl _)).src (bx_rows l) (by decide)
    rw [bxCells_flat]
    simpa using this)
  have HOWN : Hid ((w.alloc (.cells #[] 45)).ownsRow w.heap.size 45 4 (.slice (some ⟨w.heap.size, 0, none⟩) 0 0) 0 []) := Lib.hid (World.ownsRow_made w #[] 0 (Nat.le_refl _) (by simp [maxLen]) rfl)
  have HB0 := Lib.hid (one_below w (.cells #[] 45))
  have HJ := Lib.hid hj
  suffices hsuf : ∀ l2, l2 = l.set j (l[j].to st) → Calls Try.prog 58 #[.slice a l.length c, .int .i64 (j : Int), .int .i64 st] w (BoxesP w l2) from hsuf _ rfl
  intro l2 hl2
  obtain ⟨s0, hs0⟩ : ∃ x, x = l[j].st := ⟨_, rfl⟩
  have HGO : Hid (∀ v1 w1, w1.ownsRow w.heap.size 45 4 v1 (0 + l.length) ([] ++ bxCells l) → (w.alloc (.cells #[] 45)).grownBy w1 (Value.slice (some ⟨w.heap.size, 0, none⟩) 0 0).ownBlock →
      ∃ g cap, v1 = .slice (some ⟨g, 0, none⟩) l.length cap ∧ w1.frozen? ⟨g, j * 4 + 3, none⟩ = false ∧ w1.cell? ⟨g, j * 4 + 3, none⟩ = some (.int .i64 s0) ∧ Below w.heap.size w (w1.setCell ⟨g, j * 4 + 3, none⟩ (.int .i64 st)) ∧ (w.heap.size ≤ g ∧ g < (w1.setCell ⟨g, j * 4 + 3, none⟩ (.int .i64 st)).heap.size) ∧
        Sl (w1.setCell ⟨g, j * 4 + 3, none⟩ (.int .i64 st)) 4 (.slice (some ⟨g, 0, none⟩) l.length cap) (l2.map Bx.row)) := Lib.hid (by
    intro v1 w1 hown hgrow
    rw [Nat.zero_add, List.nil_append] at hown
    have hb1 : Below w.heap.size w w1 := HB0.out.grown hgrow HB0.out.size (fun k hk => by obtain rfl : w.heap.size = k := Option.some.inj hk; exact Nat.le_refl _)
    obtain ⟨g, cap, cur, rfl, hh, hg⟩ := own_pos hown (by omega)
    have hsl := own_boxes hown rfl
    have hset := sl_set (u := .int .i64 st) hsl (bx_rows l) (i := j) (by simpa using hj) (j := 3) (by decide)
    rw [bx_set l j hj st] at hset
    subst hl2
    obtain ⟨b, off, he, -, -, hc⟩ := hsl.at (i := j) (by simpa using hj)
    simp only [Option.some.injEq, Addr.mk.injEq, and_true] at he
    obtain ⟨rfl, rfl⟩ := he
    have hcell := hc j l[j].row (by rw [List.getElem?_map, List.getElem?_eq_getElem hj]; rfl) 3 (.int .i64 s0) (by rw [hs0]; rfl)
    rw [Nat.zero_add] at hcell
    exact ⟨g, cap, rfl, free_blk hh _, hcell, hb1.setCell hg _, ⟨hg, by simpa [World.setCell] using lt_blk hh⟩, hset⟩)
  have tj : ((j : Nat) : Int) < (l.length : Int) := by omega
  have hll : l.length ≤ 4000 := hl
  clear hs hl hj hl2 hs0
  go_enter Try.func58, Try.ntmps58
  go_wp2_with (first
    | ((with_reducible refine Any.wpl_append ?_ ?_ ?_ Try.underlying40 HI.out.1 HI.out.2.1 HI.out.2.2.1 HI.out.2.2.2 ?_ (by decide) HOWN.out HSRC.out (bxCells_one l) HL.out.1 HL.out.2 ?_ ?_); rfl; rfl; rfl; rfl; (simp); intro v1 w1 hown1 hgrow1 hwho1;
       obtain ⟨g, cap, rfl, y1, y2, hbb, hgg, hss⟩ := HGO.out v1 w1 hown1 hgrow1;
       have HBB := Lib.hid hbb; have HGG := Lib.hid hgg; have HSS := Lib.hid hss; have HJ2 := HJ.out; clear hown1 hgrow1 hwho1 hbb hgg hss)
    | fail)
  go_ret
  exact ⟨_, rfl, HSS.out, HBB.out, fun b hb => by obtain rfl : g = b := Option.some.inj hb; exact HGG.out⟩
/-- A row of boxes and a code come back; the row is the old one or a new one. -/
def RefP (w : World) (v : Value) (l : List Bx) (c : Int) (e : Ending) (w' : World) : Prop := ∃ u, e = .returned (.tuple #[u, .int .i64 c]) ∧ Sl w' 4 u (l.map Bx.row) ∧ Below w.heap.size w w' ∧ ∀ b, u.ownBlock = some b → v.ownBlock = some b ∨ (w.heap.size ≤ b ∧ b < w'.heap.size)
theorem refP_same {w w' : World} {v : Value} {l l' : List Bx} {c c' : Int} (hs : Sl w 4 v (l.map Bx.row)) (hb : Below w.heap.size w w') (hl : l' = l) (hc : c' = c) : RefP w v l' c' (.returned (.tuple #[v, .int .i64 c])) w' := by
  subst hl hc
  exact ⟨v, rfl, hs.below hb (Nat.le_refl _), hb, fun b h => .inl h⟩
theorem set_st {l : List Bx} {n : ByteArray} {st : Int} {j : Nat} (hj : j < l.length) (hm : bAt n 0 l = (j : Int)) (hn : (l.map Bx.name).Nodup) : l.set j (l[j].to st) = setSt l n st := by
  have hat : ∀ (l : List Bx) (k j : Nat) (hj : j < l.length), bAt n k l = ((k + j : Nat) : Int) → l[j].name = n := by
    intro l
    induction l with
    | nil => intro k j hj; simp at hj
    | cons b r ih =>
      intro k j hj h
      by_cases hb : b.name = n
      · rw [bAt, if_pos hb] at h
        have : j = 0 := by omega
        subst this
        exact hb
      · rw [bAt, if_neg hb] at h
        cases j with
        | zero =>
          exfalso
          rcases bAt_find n r (k + 1) with ⟨h1, -⟩ | ⟨i, hi, h1, -⟩
          · rw [h1] at h; omega
          · rw [h1] at h; omega
        | succ j =>
          simp only [List.getElem_cons_succ]
          exact ih (k + 1) j (by simpa using hj) (by rw [h]; congr 1; omega)
  have hjn := hat l 0 j hj (by rw [hm]; simp)
  refine List.ext_getElem (by simp [setSt]) fun i h1 h2 => ?_
  simp only [List.length_set] at h1
  rw [List.getElem_set]
  simp only [setSt, List.getElem_map]
  by_cases hij : j = i
  · subst hij
    rw [if_pos rfl, if_pos hjn]
    rfl
  · rw [if_neg hij, if_neg]
    intro he
    refine hij ?_
    have hp := List.pairwise_iff_getElem.1 hn
    rcases Nat.lt_trichotomy j i with h | h | h
    · have := hp j i (by simpa using hj) (by simpa using h1) h
      rw [List.getElem_map, List.getElem_map] at this
      exact absurd (hjn.trans he.symm) this
    · exact h
    · have := hp i j (by simpa using h1) (by simpa using hj) h
      rw [List.getElem_map, List.getElem_map] at this
      exact absurd (he.trans hjn.symm) this
set_option maxHeartbeats 8000000 in
theorem refRelease_any (l : List Bx) (n : ByteArray) (paid : Int) (v : Value) (w : World) (hs : Sl w 4 v (l.map Bx.row)) (hl : l.length ≤ 4000) (hn : (l.map Bx.name).Nodup) :
    Calls Try.prog 37 #[v, .string n, .int .i64 paid] w (RefP w v (leaveL l n 1 (rfRel paid)) (leaveC l n (rfRel paid))) := by
  have HS := Lib.hid hs
  have HNO := Lib.hid hn
  have HLL := Lib.hid hl
  rcases bAt_find n l 0 with ⟨hm, hh⟩ | ⟨j, hj, hm, hh⟩
  · have HO := Lib.hid (openNo_any l n v w hs hh)
    rw [hm] at HO
    have HQ : Hid (leaveC l n (rfRel paid) = 4) := Lib.hid (leaveC_none hh)
    clear hs hl hn hm hh
    go_enter Try.func37, Try.ntmps37
    go_wp2_with (first
      | ((with_reducible refine HO.out.mono ?_); rintro e w2 ⟨rfl, hb2⟩; have HB := Lib.hid hb2; clear hb2)
      | fail)
    go_ret2
    exact refP_same HS.out HB.out (by rw [leaveL, if_neg (by rw [HQ.out]; decide)]) HQ.out
  · rw [Nat.zero_add] at hm
    have HO := openYes_any l n v w hs j hj hm
    have HST := Lib.hid (fun st : Int => set_st (st := st) hj hm hn)
    have HRS := Lib.hid (fun (u : Value) (W : World) (st : Int) (h : Sl W 4 u (l.map Bx.row)) => refState_any l j hj st u W h hl)
    obtain ⟨a, c, rfl⟩ : ∃ a c, v = .slice a l.length c := by simpa using hs.shape
    obtain ⟨b, off, rfl, -, hb, hc⟩ := hs.at (i := j) (by simpa using hj)
    have HD : Hid (∀ W, Below w.heap.size w W → W.cell? ⟨b, off + j * 4 + 1, none⟩ = some (.int .i64 l[j].duty) ∧ W.cell? ⟨b, off + j * 4 + 2, none⟩ = some (.int .i64 l[j].day) ∧ ((j : Nat) : Int) < (l.length : Int)) := Lib.hid (fun W hW =>
      ⟨(hW.cell (p := ⟨b, off + j * 4 + 1, none⟩) hb).trans (hc j l[j].row (by simp [hj]) 1 _ rfl), (hW.cell (p := ⟨b, off + j * 4 + 2, none⟩) hb).trans (hc j l[j].row (by simp [hj]) 2 _ rfl), by omega⟩)
    have HC0 := Lib.hid (fun h : l[j].st = 0 => leaveC_some (rf := (rfRel paid)) hh h)
    have HC9 := Lib.hid (fun h : ¬ l[j].st = 0 => leaveC_gone (rf := (rfRel paid)) hh h)
    have hll : l.length ≤ 4000 := hl
    clear hs hl hn hm hh hc
    generalize l[j] = y at *
    obtain ⟨bn, bd, by_, bs⟩ := y
    simp only at HO HD HC0 HC9 HRS HST
    by_cases hz : bs = 0
    rotate_left
    · rw [if_neg hz] at HO
      have HO := Lib.hid HO
      have HQ := Lib.hid (HC9.out hz)
      clear hz
      go_enter Try.func37, Try.ntmps37
      go_wp2_with (first
        | ((with_reducible refine HO.out.mono ?_); rintro e w2 ⟨rfl, hb2⟩; have HB := Lib.hid hb2; clear hb2)
        | fail)
      go_ret2
      exact refP_same HS.out HB.out (by rw [leaveL, if_neg (by rw [HQ.out]; decide)]) HQ.out
    · rw [if_pos hz] at HO
      have HO := Lib.hid HO
      have HC := Lib.hid (HC0.out hz)
      clear hz
      by_cases hp : paid < bd
      · have t3 : decide (paid < bd) = true := decide_eq_true hp
        have HQ : Hid (leaveC l n (rfRel paid) = 10) := Lib.hid (by rw [HC.out, rfRel]; exact if_pos hp)
        clear hp
        go_enter Try.func37, Try.ntmps37
        go_wp2_with (first
          | ((with_reducible refine HO.out.mono ?_); rintro e w2 ⟨rfl, hb2⟩; have HB := Lib.hid hb2; have HSW := Lib.hid (HS.out.below hb2 (Nat.le_refl _)); obtain ⟨d1, d2, d3⟩ := HD.out _ hb2; clear hb2)
          | fail)
        go_ret2
        exact refP_same HS.out HB.out (by rw [leaveL, if_neg (by rw [HQ.out]; decide)]) HQ.out
      · have t3 : decide (paid < bd) = false := decide_eq_false hp
        have HQ : Hid (leaveC l n (rfRel paid) = 0) := Lib.hid (by rw [HC.out, rfRel]; exact if_neg hp)
        clear hp
        go_enter Try.func37, Try.ntmps37
        go_wp2_with (first
          | ((with_reducible refine HO.out.mono ?_); rintro e w2 ⟨rfl, hb2⟩; have HB := Lib.hid hb2; have HSW := Lib.hid (HS.out.below hb2 (Nat.le_refl _)); obtain ⟨d1, d2, d3⟩ := HD.out _ hb2; clear hb2)
          | ((with_reducible refine (HRS.out _ _ _ HSW.out).mono ?_); rintro e w3 ⟨u, rfl, hs3, hb3, ho3⟩; have HS3 := Lib.hid hs3; have HB3 := Lib.hid (HB.out.trans (hb3.mono HB.out.size)); have HO3 := Lib.hid (fun b h => And.intro (Nat.le_trans HB.out.size (ho3 b h).1) (ho3 b h).2); clear hs3 hb3 ho3)
          | fail)
        go_ret2
        exact ⟨u, by rw [HQ.out]; rfl, by rw [leaveL, if_pos HQ.out, ← HST.out]; exact HS3.out, HB3.out, fun b h => .inr (HO3.out b h)⟩
set_option maxHeartbeats 8000000 in
theorem refExport_any (l : List Bx) (n : ByteArray) (v : Value) (w : World) (hs : Sl w 4 v (l.map Bx.row)) (hl : l.length ≤ 4000) (hn : (l.map Bx.name).Nodup) :
    Calls Try.prog 40 #[v, .string n] w (RefP w v (leaveL l n 2 rfExp) (leaveC l n rfExp)) := by
  have HS := Lib.hid hs
  have HNO := Lib.hid hn
  have HLL := Lib.hid hl
  rcases bAt_find n l 0 with ⟨hm, hh⟩ | ⟨j, hj, hm, hh⟩
  · have HO := Lib.hid (openNo_any l n v w hs hh)
    rw [hm] at HO
    have HQ : Hid (leaveC l n rfExp = 4) := Lib.hid (leaveC_none hh)
    clear hs hl hn hm hh
    go_enter Try.func40, Try.ntmps40
    go_wp2_with (first
      | ((with_reducible refine HO.out.mono ?_); rintro e w2 ⟨rfl, hb2⟩; have HB := Lib.hid hb2; clear hb2)
      | fail)
    go_ret2
    exact refP_same HS.out HB.out (by rw [leaveL, if_neg (by rw [HQ.out]; decide)]) HQ.out
  · rw [Nat.zero_add] at hm
    have HO := openYes_any l n v w hs j hj hm
    have HST := Lib.hid (fun st : Int => set_st (st := st) hj hm hn)
    have HRS := Lib.hid (fun (u : Value) (W : World) (st : Int) (h : Sl W 4 u (l.map Bx.row)) => refState_any l j hj st u W h hl)
    obtain ⟨a, c, rfl⟩ : ∃ a c, v = .slice a l.length c := by simpa using hs.shape
    obtain ⟨b, off, rfl, -, hb, hc⟩ := hs.at (i := j) (by simpa using hj)
    have HD : Hid (∀ W, Below w.heap.size w W → W.cell? ⟨b, off + j * 4 + 1, none⟩ = some (.int .i64 l[j].duty) ∧ W.cell? ⟨b, off + j * 4 + 2, none⟩ = some (.int .i64 l[j].day) ∧ ((j : Nat) : Int) < (l.length : Int)) := Lib.hid (fun W hW =>
      ⟨(hW.cell (p := ⟨b, off + j * 4 + 1, none⟩) hb).trans (hc j l[j].row (by simp [hj]) 1 _ rfl), (hW.cell (p := ⟨b, off + j * 4 + 2, none⟩) hb).trans (hc j l[j].row (by simp [hj]) 2 _ rfl), by omega⟩)
    have HC0 := Lib.hid (fun h : l[j].st = 0 => leaveC_some (rf := rfExp) hh h)
    have HC9 := Lib.hid (fun h : ¬ l[j].st = 0 => leaveC_gone (rf := rfExp) hh h)
    have hll : l.length ≤ 4000 := hl
    clear hs hl hn hm hh hc
    generalize l[j] = y at *
    obtain ⟨bn, bd, by_, bs⟩ := y
    simp only at HO HD HC0 HC9 HRS HST
    by_cases hz : bs = 0
    rotate_left
    · rw [if_neg hz] at HO
      have HO := Lib.hid HO
      have HQ := Lib.hid (HC9.out hz)
      clear hz
      go_enter Try.func40, Try.ntmps40
      go_wp2_with (first
        | ((with_reducible refine HO.out.mono ?_); rintro e w2 ⟨rfl, hb2⟩; have HB := Lib.hid hb2; clear hb2)
        | fail)
      go_ret2
      exact refP_same HS.out HB.out (by rw [leaveL, if_neg (by rw [HQ.out]; decide)]) HQ.out
    · rw [if_pos hz] at HO
      have HO := Lib.hid HO
      have HC := Lib.hid (HC0.out hz)
      clear hz
      have HQ : Hid (leaveC l n rfExp = 0) := Lib.hid (by rw [HC.out]; rfl)
      go_enter Try.func40, Try.ntmps40
      go_wp2_with (first
        | ((with_reducible refine HO.out.mono ?_); rintro e w2 ⟨rfl, hb2⟩; have HB := Lib.hid hb2; have HSW := Lib.hid (HS.out.below hb2 (Nat.le_refl _)); obtain ⟨d1, d2, d3⟩ := HD.out _ hb2; clear hb2)
        | ((with_reducible refine (HRS.out _ _ _ HSW.out).mono ?_); rintro e w3 ⟨u, rfl, hs3, hb3, ho3⟩; have HS3 := Lib.hid hs3; have HB3 := Lib.hid (HB.out.trans (hb3.mono HB.out.size)); have HO3 := Lib.hid (fun b h => And.intro (Nat.le_trans HB.out.size (ho3 b h).1) (ho3 b h).2); clear hs3 hb3 ho3)
        | fail)
      go_ret2
      exact ⟨u, by rw [HQ.out]; rfl, by rw [leaveL, if_pos HQ.out, ← HST.out]; exact HS3.out, HB3.out, fun b h => .inr (HO3.out b h)⟩
set_option maxHeartbeats 8000000 in
theorem refTransit_any (l : List Bx) (n to : ByteArray) (day : Int) (v : Value) (w : World) (hs : Sl w 4 v (l.map Bx.row)) (hl : l.length ≤ 4000) (hn : (l.map Bx.name).Nodup) (hto : to.size ≤ 9223372036854775807) :
    Calls Try.prog 38 #[v, .string n, .string to, .int .i64 day] w (RefP w v (leaveL l n 2 (rfTra to day)) (leaveC l n (rfTra to day))) := by
  have HN := Lib.hid (fun W => refName5_any to W hto)
  have HS := Lib.hid hs
  have HNO := Lib.hid hn
  have HLL := Lib.hid hl
  rcases bAt_find n l 0 with ⟨hm, hh⟩ | ⟨j, hj, hm, hh⟩
  · have HO := Lib.hid (openNo_any l n v w hs hh)
    rw [hm] at HO
    have HQ : Hid (leaveC l n (rfTra to day) = 4) := Lib.hid (leaveC_none hh)
    clear hs hl hn hm hh
    go_enter Try.func38, Try.ntmps38
    go_wp2_with (first
      | ((with_reducible refine HO.out.mono ?_); rintro e w2 ⟨rfl, hb2⟩; have HB := Lib.hid hb2; clear hb2)
      | fail)
    go_ret2
    exact refP_same HS.out HB.out (by rw [leaveL, if_neg (by rw [HQ.out]; decide)]) HQ.out
  · rw [Nat.zero_add] at hm
    have HO := openYes_any l n v w hs j hj hm
    have HST := Lib.hid (fun st : Int => set_st (st := st) hj hm hn)
    have HRS := Lib.hid (fun (u : Value) (W : World) (st : Int) (h : Sl W 4 u (l.map Bx.row)) => refState_any l j hj st u W h hl)
    obtain ⟨a, c, rfl⟩ : ∃ a c, v = .slice a l.length c := by simpa using hs.shape
    obtain ⟨b, off, rfl, -, hb, hc⟩ := hs.at (i := j) (by simpa using hj)
    have HD : Hid (∀ W, Below w.heap.size w W → W.cell? ⟨b, off + j * 4 + 1, none⟩ = some (.int .i64 l[j].duty) ∧ W.cell? ⟨b, off + j * 4 + 2, none⟩ = some (.int .i64 l[j].day) ∧ ((j : Nat) : Int) < (l.length : Int)) := Lib.hid (fun W hW =>
      ⟨(hW.cell (p := ⟨b, off + j * 4 + 1, none⟩) hb).trans (hc j l[j].row (by simp [hj]) 1 _ rfl), (hW.cell (p := ⟨b, off + j * 4 + 2, none⟩) hb).trans (hc j l[j].row (by simp [hj]) 2 _ rfl), by omega⟩)
    have HC0 := Lib.hid (fun h : l[j].st = 0 => leaveC_some (rf := (rfTra to day)) hh h)
    have HC9 := Lib.hid (fun h : ¬ l[j].st = 0 => leaveC_gone (rf := (rfTra to day)) hh h)
    have hll : l.length ≤ 4000 := hl
    clear hs hl hn hm hh hc
    generalize l[j] = y at *
    obtain ⟨bn, bd, by_, bs⟩ := y
    simp only at HO HD HC0 HC9 HRS HST
    by_cases hz : bs = 0
    rotate_left
    · rw [if_neg hz] at HO
      have HO := Lib.hid HO
      have HQ := Lib.hid (HC9.out hz)
      clear hz
      go_enter Try.func38, Try.ntmps38
      go_wp2_with (first
        | ((with_reducible refine HO.out.mono ?_); rintro e w2 ⟨rfl, hb2⟩; have HB := Lib.hid hb2; clear hb2)
        | fail)
      go_ret2
      exact refP_same HS.out HB.out (by rw [leaveL, if_neg (by rw [HQ.out]; decide)]) HQ.out
    · rw [if_pos hz] at HO
      have HO := Lib.hid HO
      have HC := Lib.hid (HC0.out hz)
      clear hz
      cases hk : nameOk to
      · rw [hk] at HN
        have HQ : Hid (leaveC l n (rfTra to day) = 1) := Lib.hid (by rw [HC.out, rfTra]; exact if_pos hk)
        clear hk
        go_enter Try.func38, Try.ntmps38
        go_wp2_with (first
          | ((with_reducible refine HO.out.mono ?_); rintro e w2 ⟨rfl, hb2⟩; have HB := Lib.hid hb2; have HSW := Lib.hid (HS.out.below hb2 (Nat.le_refl _)); obtain ⟨d1, d2, d3⟩ := HD.out _ hb2; clear hb2)
          | ((with_reducible refine (HN.out _).mono ?_); rintro e w4 ⟨rfl, hb4⟩; have HB := Lib.hid (HB.out.trans (hb4.mono HB.out.size)); have HSW := Lib.hid (HSW.out.below hb4 (Nat.le_refl _)); obtain ⟨d1, d2, d3⟩ := HD.out _ HB.out; clear hb4)
          | fail)
        go_ret2
        exact refP_same HS.out HB.out (by rw [leaveL, if_neg (by rw [HQ.out]; decide)]) HQ.out
      · rw [hk] at HN
        by_cases hp : by_ < day
        · have t3 : decide (by_ < day) = true := decide_eq_true hp
          have HQ : Hid (leaveC l n (rfTra to day) = 11) := Lib.hid (by rw [HC.out, rfTra, if_neg (by rw [hk]; decide)]; exact if_pos hp)
          clear hp hk
          go_enter Try.func38, Try.ntmps38
          go_wp2_with (first
            | ((with_reducible refine HO.out.mono ?_); rintro e w2 ⟨rfl, hb2⟩; have HB := Lib.hid hb2; have HSW := Lib.hid (HS.out.below hb2 (Nat.le_refl _)); obtain ⟨d1, d2, d3⟩ := HD.out _ hb2; clear hb2)
            | ((with_reducible refine (HN.out _).mono ?_); rintro e w4 ⟨rfl, hb4⟩; have HB := Lib.hid (HB.out.trans (hb4.mono HB.out.size)); have HSW := Lib.hid (HSW.out.below hb4 (Nat.le_refl _)); obtain ⟨d1, d2, d3⟩ := HD.out _ HB.out; clear hb4)
            | fail)
          go_ret2
          exact refP_same HS.out HB.out (by rw [leaveL, if_neg (by rw [HQ.out]; decide)]) HQ.out
        · have t3 : decide (by_ < day) = false := decide_eq_false hp
          have HQ : Hid (leaveC l n (rfTra to day) = 0) := Lib.hid (by rw [HC.out, rfTra, if_neg (by rw [hk]; decide)]; exact if_neg hp)
          clear hp hk
          go_enter Try.func38, Try.ntmps38
          go_wp2_with (first
            | ((with_reducible refine HO.out.mono ?_); rintro e w2 ⟨rfl, hb2⟩; have HB := Lib.hid hb2; have HSW := Lib.hid (HS.out.below hb2 (Nat.le_refl _)); obtain ⟨d1, d2, d3⟩ := HD.out _ hb2; clear hb2)
            | ((with_reducible refine (HN.out _).mono ?_); rintro e w4 ⟨rfl, hb4⟩; have HB := Lib.hid (HB.out.trans (hb4.mono HB.out.size)); have HSW := Lib.hid (HSW.out.below hb4 (Nat.le_refl _)); obtain ⟨d1, d2, d3⟩ := HD.out _ HB.out; clear hb4)
            | ((with_reducible refine (HRS.out _ _ _ HSW.out).mono ?_); rintro e w3 ⟨u, rfl, hs3, hb3, ho3⟩; have HS3 := Lib.hid hs3; have HB3 := Lib.hid (HB.out.trans (hb3.mono HB.out.size)); have HO3 := Lib.hid (fun b h => And.intro (Nat.le_trans HB.out.size (ho3 b h).1) (ho3 b h).2); clear hs3 hb3 ho3)
            | fail)
          go_ret2
          exact ⟨u, by rw [HQ.out]; rfl, by rw [leaveL, if_pos HQ.out, ← HST.out]; exact HS3.out, HB3.out, fun b h => .inr (HO3.out b h)⟩
end Go.Proofs.Ytehlhfcaajhhaaa.Sc
