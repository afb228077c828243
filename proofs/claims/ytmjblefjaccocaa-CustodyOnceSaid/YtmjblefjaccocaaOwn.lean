/- The document's rows of hand-overs: Own, Same. -/
import Derived.Test.YtmjblefjaccocaaHand
import Derived.Test.YtmjblefjaccocaaAny
namespace Go.Proofs.Ytmjblefjaccocaa.Sc
open Go Go.RowKit Go.ChangeShapes Go.WideShapes Go.ChangeAt

theorem push_below {w wr w1 : World} {e : TypeId} {sz n : Nat} {v : Value} {xs : List Value} (hbel : Below w.heap.size w wr) (hown : wr.ownsRow w.heap.size e sz v n xs) (hg : wr.grownBy w1 v.ownBlock) : Below w.heap.size w w1 :=
  hbel.grown hg hbel.size (fun k hk => (hown.lt k hk).1)

theorem infoHd : (Try.prog.info? 41).map (fun i => (i.zero, i.size, i.bytes)) = some (some (.agg #[.string ⟨#[]⟩, .string ⟨#[]⟩, .string ⟨#[]⟩, .string ⟨#[]⟩, .int .i64 0]), 5, 72) := by kernel_rfl

def hdCells (l : List Hd) : List Value := l.flatMap Hd.row
/-- A box's hand-overs. -/
def ownOf (l : List Hd) (box : ByteArray) : List Hd := l.filter fun h => decide (h.box = box)
theorem ownOf_take (l : List Hd) (box : ByteArray) (k : Nat) (h : k < l.length) : ownOf (l.take (k + 1)) box = ownOf (l.take k) box ++ (if l[k].box = box then [l[k]] else []) := by
  rw [List.take_succ_eq_append_getElem h, ownOf, List.filter_append]
  simp only [ownOf, List.filter_cons, List.filter_nil, decide_eq_true_eq]

set_option maxHeartbeats 1000000 in
theorem ownOf_len (l : List Hd) (box : ByteArray) : (ownOf l box).length ≤ l.length := List.length_filter_le _ _
theorem hdCells_append (a b : List Hd) : hdCells (a ++ b) = hdCells a ++ hdCells b := by simp [hdCells]
theorem hd_rows (l : List Hd) : ∀ r ∈ l.map Hd.row, r.length = 5 := by
  intro r hr
  obtain ⟨d, _, rfl⟩ := List.mem_map.1 hr
  rfl
theorem hdCells_flat (l : List Hd) : hdCells l = (l.map Hd.row).flatten := by rw [hdCells, List.flatMap_def]
theorem own_hands {w : World} {B n : Nat} {v : Value} {l : List Hd} (h : w.ownsRow B 41 5 v n (hdCells l)) (hn : n = l.length) : Sl w 5 v (l.map Hd.row) := by
  rw [hdCells_flat] at h
  exact own_sl h (by simpa using hn) (hd_rows l)
theorem hdCells_one (l : List Hd) : ∀ u ∈ hdCells l, u.oneCell' = true := by
  intro u hu
  simp only [hdCells, List.mem_flatMap, Hd.row, List.mem_cons, List.not_mem_nil, or_false] at hu
  obtain ⟨d, _, rfl | rfl | rfl | rfl | rfl⟩ := hu <;> rfl
theorem hd_one (h : Hd) : ∀ u ∈ h.row, u.oneCell' = true := by
  intro u hu
  simp only [Hd.row, List.mem_cons, List.not_mem_nil, or_false] at hu
  rcases hu with rfl | rfl | rfl | rfl | rfl <;> rfl

set_option maxRecDepth 5000 in
set_option maxHeartbeats 1000000 in
theorem refOwn_any (l : List Hd) (box : ByteArray) (v : Value) (w : World) (hs : Sl w 5 v (l.map Hd.row)) (hlen : l.length ≤ 1000000) :
    Calls Try.prog 12 #[v, .string box] w (RetRow w 41 5 (ownOf l box).length (hdCells (ownOf l box))) := by
  have hml : l.length ≤ 9223372036854775807 := by omega
  obtain ⟨a, c, rfl⟩ : ∃ a c, v = .slice a l.length c := by simpa using hs.shape
  have HSL := Lib.hid hs
  have HLEN := Lib.hid hlen
  clear hs hlen
  go_enter Try.func12, Try.ntmps12
  go_wp2_with fail
  go_loopw [5, 6] (fun o i wr => ∃ k : Nat, k ≤ l.length ∧ i = .int .i64 k ∧ wr.ownsRow w.heap.size 41 5 o (ownOf (l.take k) box).length (hdCells (ownOf (l.take k) box)) ∧ Below w.heap.size w wr) (fun _ i _ => l.length - (intOf i).toNat)
  case atStart => exact ⟨0, Nat.zero_le _, rfl, World.ownsRow_made w #[] 0 (Nat.le_refl _) (by simp [maxLen]) rfl, one_below _ _⟩
  case round =>
    obtain ⟨k, hk, rfl, hown, hbel⟩ := hrel
    have HOWN := Lib.hid hown
    clear hown
    by_cases hlt : k < l.length
    · obtain ⟨b, off, rfl, -, hb, hc⟩ := HSL.out.at (i := k) (by simpa using hlt)
      have hr := hc k l[k].row (by simp [hlt])
      have d0 := (hbel.cell (p := ⟨b, off + k * 5, none⟩) hb).trans (hr 0 _ rfl)
      have d1 := (hbel.cell (p := ⟨b, off + k * 5 + 1, none⟩) hb).trans (hr 1 _ rfl)
      have d2 := (hbel.cell (p := ⟨b, off + k * 5 + 2, none⟩) hb).trans (hr 2 _ rfl)
      have d3 := (hbel.cell (p := ⟨b, off + k * 5 + 3, none⟩) hb).trans (hr 3 _ rfl)
      have d4 := (hbel.cell (p := ⟨b, off + k * 5 + 4, none⟩) hb).trans (hr 4 _ rfl)
      have HT := Lib.hid (ownOf_take l box k hlt)
      clear hr hc
      generalize l[k] = x at *
      obtain ⟨i0, hi, hz, hsz, hby⟩ := info_parts infoHd
      have HI := Lib.hid (And.intro hi (And.intro hz (And.intro hsz hby)))
      clear hi hz hsz hby
      have HL : Hid ((ownOf (l.take k) box).length + 1 ≤ maxLen ∧ ((ownOf (l.take k) box).length + 1) * 72 ≤ 140737488355328 ∧ w.heap.size ≤ (wr.alloc (.cells #[.string x.box, .string x.frm, .string x.to, .string x.place, .int .i64 x.day] 41)).heap.size) := Lib.hid (by
        have h1 := ownOf_len (l.take k) box
        have h2 : (l.take k).length ≤ l.length := by simp; omega
        have h3 := HLEN.out
        have h4 := hbel.size
        simp only [maxLen, World.size_alloc]
        omega)
      have HNEW : Hid (Src (wr.alloc (.cells #[.string x.box, .string x.frm, .string x.to, .string x.place, .int .i64 x.day] 41)) 5 (.slice (some ⟨wr.heap.size, 0, none⟩) 1 1) 1 x.row) := Lib.hid (src_block (heap_alloc_new wr (.cells #[.string x.box, .string x.frm, .string x.to, .string x.place, .int .i64 x.day] 41)) rfl)
      by_cases heq : x.box = box
      · have HEQ := Lib.hid heq
        have t1 := str_yes heq
        clear heq
        go_wp2_with (first | ((with_reducible refine Any.wpl_append (w := wr.alloc (.cells #[.string x.box, .string x.frm, .string x.to, .string x.place, .int .i64 x.day] 41)) ?_ ?_ ?_ Try.underlying22 HI.out.1 HI.out.2.1 HI.out.2.2.1 HI.out.2.2.2 ?_ (by decide) (HOWN.out.alloc _) HNEW.out (hd_one x) HL.out.1 HL.out.2.1 HL.out.2.2 ?_); rfl; rfl; rfl; rfl; intro v1 w1 hown1 hgrow1 hwho1) | fail)
        go_roundw
        case rel => 
          refine ⟨k + 1, by omega, by go_num, ?_, ?_⟩
          · rw [HT.out, if_pos HEQ.out, List.length_append, List.length_singleton, hdCells_append]
            simpa [hdCells] using hown1
          · exact (hbel.alloc hbel.size _).grown hgrow1 (by have := hbel.size; simp; omega) (fun j hj => (HOWN.out.lt j hj).1)
        case measure => simp [intOf]; omega
      · have HEQ := Lib.hid heq
        have t1 := str_no heq
        clear heq
        go_wp2_with fail
        go_roundw
        case rel => exact ⟨k + 1, by omega, by go_num, by rw [HT.out, if_neg HEQ.out, List.append_nil]; exact HOWN.out, hbel⟩
        case measure => simp [intOf]; omega
    · go_wp2_with fail
      go_ret
      have := HOWN.out
      rw [List.take_of_length_le (by omega)] at this
      exact retRow this (Nat.le_refl _) hbel
def HdEq (x y : Hd) : Bool := (x.box.toList == y.box.toList && (x.frm.toList == y.frm.toList && (x.to.toList == y.to.toList && (x.place.toList == y.place.toList && x.day == y.day))))
theorem hdEq_iff (x y : Hd) : HdEq x y = decide (x = y) := by
  obtain ⟨a, b, c, d, e⟩ := x
  obtain ⟨a', b', c', d', e'⟩ := y
  simp only [HdEq, str_beq, Hd.mk.injEq]
  rw [Bool.eq_iff_iff]
  simp
theorem hdEq_yes {x y : Hd} (h : x = y) : HdEq x y = true := by rw [hdEq_iff, decide_eq_true h]
theorem hdEq_no {x y : Hd} (h : ¬ x = y) : HdEq x y = false := by rw [hdEq_iff, decide_eq_false h]
end Go.Proofs.Ytmjblefjaccocaa.Sc
