/- The contract of allow.behind: the draws with one more, in a slice of the call's own. -/
import Derived.Test.YtjabjfkfoenmlaaDraw
import Derived.Test.YtjabjfkfoenmlaaAny
namespace Go.Proofs.Ytjabjfkfoenmlaa.Sc
open Go Go.RowKit Go.ChangeShapes Go.WideShapes Go.ChangeAt
set_option maxRecDepth 100000

theorem infoDr : (Try.prog.info? 62).map (fun i => (i.zero, i.size, i.bytes)) = some (some (.agg #[.int .i64 0, .int .i64 0]), 2, 16) := by kernel_rfl

/-- The cells of draws. -/
def drCells (l : List Dr) : List Value := l.flatMap Dr.row
theorem drCells_append (a b : List Dr) : drCells (a ++ b) = drCells a ++ drCells b := by simp [drCells]
theorem drCells_length (l : List Dr) : (drCells l).length = l.length * 2 := by
  induction l with
  | nil => rfl
  | cons d r ih => simp only [drCells, List.flatMap_cons, List.length_append, List.length_cons] at *; rw [ih]; simp [Dr.row]; omega

theorem drCells_one (l : List Dr) : ∀ u ∈ drCells l, u.oneCell' = true := by
  intro u hu
  simp only [drCells, List.mem_flatMap, Dr.row, List.mem_cons, List.not_mem_nil, or_false] at hu
  obtain ⟨d, _, rfl | rfl⟩ := hu <;> rfl

set_option maxHeartbeats 1000000 in
theorem behind_any (l : List Dr) (d : Dr) (v : Value) (w : World) (hs : Sl w 2 v (l.map Dr.row)) (hlen : l.length ≤ 1000000) :
    Calls Try.prog 79 #[v, .agg #[.int .i64 d.day, .int .i64 d.amt]] w (RetRow w 62 2 (l.length + 1) (drCells (l ++ [d]))) := by
  obtain ⟨i0, hi, hz, hsz, hby⟩ := info_parts infoDr
  have hshape : ∃ a c, v = .slice a l.length c := by simpa using hs.shape
  have HSH := Lib.hid hshape
  have hs0 := hs
  clear hs
  clear hshape
  go_enter Try.func79, Try.ntmps79
  go_wp2_with fail
  refine Any.region_lit (fun
    | 0 => Any.val v
    | 1 => Any.val (.int .i64 l.length)
    | 2 => Any.val (.int .i64 (l.length + 1))
    | 3 => Any.row (w.heap.size + 1) 62 2 0 [] []
    | 4 => Any.val v
    | 5 => Any.row (w.heap.size + 1) 62 2 l.length (drCells l) [3]
    | 6 => Any.val (.agg #[.int .i64 d.day, .int .i64 d.amt])
    | 7 => Any.made 62 1 #[.int .i64 d.day, .int .i64 d.amt]
    | 8 => Any.row (w.heap.size + 1) 62 2 (l.length + 1) (drCells (l ++ [d])) [5]
    | 9 => Any.row (w.heap.size + 1) 62 2 (l.length + 1) (drCells (l ++ [d])) [8]
    | _ => Any.idle) (by kernel_rfl) (by kernel_rfl) (by kernel_rfl) ?_ ?_ ?_
  · intro i _
    match i with
    | 0 | 1 | 2 | 4 | 6 => exact Any.lasts_val _
    | 3 | 5 | 8 | 9 => exact Any.lasts_row _ _ _ _ _ _
    | 7 => exact Any.lasts_made _ _ _
    | n + 10 => exact Any.lasts_idle
  · refine ⟨?_, ?_, ?_, ?_, ?_, ?_, ?_, ?_, ?_, ?_, trivial⟩
    · refine Any.owes_plain rfl fun ρ W hs hb hc => ?_
      have h0 : ρ (.tmp 0) = v := hs.old' 0 (by kernel_rfl)
      exact Any.ok_move (Any.post_val hb rfl h0)
    · refine Any.owes_plain rfl fun ρ W hs hb hc => ?_
      have h0 : ρ (.tmp 5) = v := hs.new' 5 0 (by kernel_rfl)
      obtain ⟨a, c, hv⟩ := HSH.out
      rw [hv] at h0
      go_simp
      exact Any.post_val hb rfl rfl
    · refine Any.owes_plain rfl fun ρ W hs hb hc => ?_
      have h0 : ρ (.tmp 6) = .int .i64 l.length := hs.new' 6 1 (by kernel_rfl)
      go_simp
      exact Any.post_val hb rfl (wrap_in (by omega))
    · refine Any.owes_plain rfl fun ρ W hs hb hc => ?_
      have h0 : ρ (.tmp 7) = .int .i64 ((l.length + 1 : Nat) : Int) := hs.new' 7 2 (by kernel_rfl)
      have hbase : w.heap.size + 1 ≤ W.heap.size := by have := hb.size; simpa using this
      exact Any.ok_make_own Try.underlying63 hi hz hsz h0 (hc _) (by rw [hby]; omega) (by simp only [maxLen]; omega) hbase fun w' h1 h2 =>
        Any.post_new hb h1 ((Below.refl _ _).grown h2 (Nat.le_refl _) (by simp)) (by intro b hb'; simp [Any.row, Value.ownBlock] at hb'; omega)
    · refine Any.owes_plain rfl fun ρ W hs hb hc => ?_
      have h0 : ρ (.tmp 0) = v := hs.old' 0 (by kernel_rfl)
      exact Any.ok_move (Any.post_val hb rfl h0)
    · refine Any.owes_plain rfl fun ρ W hs hb hc => ?_
      have h8 : W.ownsRow (w.heap.size + 1) 62 2 (ρ (.tmp 8)) 0 [] := hs.new' 8 3 (by kernel_rfl)
      have h9 : ρ (.tmp 9) = v := hs.new' 9 4 (by kernel_rfl)
      have hsrc : Src W 2 (ρ (.tmp 9)) l.length (drCells l) := by
        rw [h9]
        have := (hs0.below (((one_below w _).drew).trans (hb.mono (B' := w.heap.size) (by simp))) (Nat.le_refl _)).src (by intro r hr; obtain ⟨d, _, rfl⟩ := List.mem_map.1 hr; rfl) (by decide)
        rw [List.length_map] at this
        exact this
      have hbase : w.heap.size + 1 ≤ W.heap.size := by have := hb.size; simpa using this
      refine Any.ok_append_own Try.underlying63 hi hz hsz hby rfl (by decide) h8 hsrc (drCells_one l) (by simp only [maxLen]; omega) (by omega) hbase fun v' w' h1 h2 h3 => ?_
      rw [List.nil_append, Nat.zero_add] at h1
      exact Any.post_take hb h1 h2 rfl ⟨_, _, _, rfl⟩ rfl rfl (by simp) h3 (fun b hb => (h8.lt b hb).1)
    · refine Any.owes_plain rfl fun ρ W hs hb hc => ?_
      have h0 : ρ (.tmp 3) = .pointer (some ⟨w.heap.size, 0, none⟩) := hs.old' 3 (by kernel_rfl)
      have c0 : W.cell? ⟨w.heap.size, 0, none⟩ = some (.int .i64 d.day) := (hb.cell (p := ⟨w.heap.size, 0, none⟩) (by simp)).trans (cell_new w _ _ _)
      have c1 : W.cell? ⟨w.heap.size, 1, none⟩ = some (.int .i64 d.amt) := (hb.cell (p := ⟨w.heap.size, 1, none⟩) (by simp)).trans (cell_new w _ _ _)
      go_simp
      exact Any.post_val hb rfl rfl
    · refine Any.owes_plain rfl fun ρ W hs hb hc => ?_
      have h0 : ρ (.tmp 11) = .agg #[.int .i64 d.day, .int .i64 d.amt] := hs.new' 11 6 (by kernel_rfl)
      go_simp
      exact Any.post_new hb ⟨_, rfl, heap_alloc_new _ _⟩ (one_below _ _) (by intro b hb'; obtain rfl : W.heap.size = b := Option.some.inj hb'; exact Nat.le_refl _)
    · refine Any.owes_plain rfl fun ρ W hs hb hc => ?_
      have h8 : W.ownsRow (w.heap.size + 1) 62 2 (ρ (.tmp 10)) l.length (drCells l) := hs.new' 10 5 (by kernel_rfl)
      obtain ⟨g, hg, hgb⟩ : ∃ b, ρ (.tmp 12) = .slice (some ⟨b, 0, none⟩) 1 1 ∧ W.heap[b]? = some (.cells #[.int .i64 d.day, .int .i64 d.amt] 62 (0, 0)) := hs.new' 12 7 (by kernel_rfl)
      have hsrc : Src W 2 (ρ (.tmp 12)) 1 d.row := by
        rw [hg]
        exact src_block hgb rfl
      have hbase : w.heap.size + 1 ≤ W.heap.size := by have := hb.size; simpa using this
      refine Any.ok_append_own Try.underlying63 hi hz hsz hby rfl (by decide) h8 hsrc (by intro u hu; simp [Dr.row] at hu; rcases hu with rfl | rfl <;> rfl) (by simp only [maxLen]; omega) (by omega) hbase fun v' w' h1 h2 h3 => ?_
      rw [show drCells l ++ d.row = drCells (l ++ [d]) from by simp [drCells]] at h1
      exact Any.post_take hb h1 h2 rfl ⟨_, _, _, rfl⟩ rfl rfl (by simp) h3 (fun b hb => (h8.lt b hb).1)
    · refine Any.owes_plain rfl fun ρ W hs hb hc => ?_
      have h8 : W.ownsRow (w.heap.size + 1) 62 2 (ρ (.tmp 13)) (l.length + 1) (drCells (l ++ [d])) := hs.new' 13 8 (by kernel_rfl)
      exact Any.ok_assign (Any.post_pass hb rfl ⟨_, rfl⟩ rfl rfl h8)
  · intro vals w' hb hk ha
    have h9 : w'.ownsRow (w.heap.size + 1) 62 2 (vals 9) (l.length + 1) (drCells (l ++ [d])) := hk 9 (by kernel_rfl)
    have hb' := below_new hb
    clear hk ha hb
    go_simp
    go_wp2
    go_ret
    exact retRow h9 (by omega) hb'
end Go.Proofs.Ytjabjfkfoenmlaa.Sc
