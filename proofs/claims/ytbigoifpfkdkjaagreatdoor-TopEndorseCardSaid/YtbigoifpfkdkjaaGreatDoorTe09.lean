/- What is wrong first with an act: the register's ask. -/
import Derived.Test.YtbigoifpfkdkjaaGreatDoorTe07
import Derived.Test.YtbigoifpfkdkjaaGreatDoorTe08
namespace Go.Proofs.YtbigoifpfkdkjaaGreatDoor.Sc
open Go Go.RowKit Go.ChangeShapes Go.WideShapes Go.ChangeAt
set_option maxRecDepth 100000

/-- An act. -/
structure Ac where
  bill : ByteArray
  idx : Int
  least : Int
  by' : ByteArray
  st : Int
  day : Int
  dated : Bool
  wrong : Bool
def Ac.cells (A : Ac) : Array Value := #[.string A.bill, .int .i64 A.idx, .int .i64 A.least, .string A.by', .int .i64 A.st, .int .i64 A.day, .bool A.dated, .bool A.wrong]
/-- The bill as it lies in memory. -/
structure EnAt (w : World) (be : Nat) (E : En) (vb vp v0 v1 v2 : Value) : Prop where
  box : w.heap[be]? = some (.cells (E.cells vb vp v0 v1 v2) 152 (0, 0))
  c0 : Sl w 4 v0 (E.o0.ch.map Ed.row)
  c1 : Sl w 4 v1 (E.o1.ch.map Ed.row)
  c2 : Sl w 4 v2 (E.o2.ch.map Ed.row)
theorem EnAt.below {w w' : World} {be : Nat} {E : En} {vb vp v0 v1 v2 : Value} (h : EnAt w be E vb vp v0 v1 v2) (hb : Below w.heap.size w w') : EnAt w' be E vb vp v0 v1 v2 :=
  ⟨blk hb (lt_blk h.box) h.box, h.c0.below hb (Nat.le_refl _), h.c1.below hb (Nat.le_refl _), h.c2.below hb (Nat.le_refl _)⟩
theorem EnAt.row {w : World} {be : Nat} {E : En} {vb vp v0 v1 v2 : Value} (h : EnAt w be E vb vp v0 v1 v2) (k : Nat) : Sl w 4 (vOf v0 v1 v2 k) ((E.og k).ch.map Ed.row) := by
  unfold vOf En.og
  split
  · exact h.c0
  split
  · exact h.c1
  · exact h.c2
/-- What the checks see: the variable that holds the bill, the act, the bill. -/
structure AskAt (w : World) (pe pa be : Nat) (A : Ac) (E : En) (vb vp v0 v1 v2 : Value) : Prop where
  pe : w.heap[pe]? = some (.cells #[.pointer (some ⟨be, 0, none⟩)] 143 (0, 0))
  pa : w.heap[pa]? = some (.cells A.cells 155 (0, 0))
  en : EnAt w be E vb vp v0 v1 v2
theorem AskAt.below {w w' : World} {pe pa be : Nat} {A : Ac} {E : En} {vb vp v0 v1 v2 : Value} (h : AskAt w pe pa be A E vb vp v0 v1 v2) (hb : Below w.heap.size w w') : AskAt w' pe pa be A E vb vp v0 v1 v2 :=
  ⟨blk hb (lt_blk h.pe) h.pe, blk hb (lt_blk h.pa) h.pa, h.en.below hb⟩
theorem ask1_any {w : World} {pe pa be : Nat} {A : Ac} {E : En} {vb vp v0 v1 v2 : Value} (h : AskAt w pe pa be A E vb vp v0 v1 v2) : Calls Tryz.prog 128 #[.pointer (some ⟨pe, 0, none⟩)] w (RetB w false) := by
  have c0 := cell_blk h.pe 0
  clear h
  go_enter Tryz.func128, Tryz.ntmps128
  go_wp2
  go_ret
  exact retB rfl (Below.refl _ _)
theorem ask2_any {w : World} {pe pa be : Nat} {A : Ac} {E : En} {vb vp v0 v1 v2 : Value} (h : AskAt w pe pa be A E vb vp v0 v1 v2) : Calls Tryz.prog 129 #[.pointer (some ⟨pa, 0, none⟩)] w (RetB w (decide (A.idx < A.least) || decide (3 ≤ A.idx))) := by
  have c1 : w.cell? ⟨pa, 1, none⟩ = some (.int .i64 A.idx) := cell_blk h.pa 1
  have c2 : w.cell? ⟨pa, 2, none⟩ = some (.int .i64 A.least) := cell_blk h.pa 2
  generalize A.idx = x at *
  generalize A.least = y at *
  clear h
  cases hx : decide (x < y) <;> cases hy : decide (3 ≤ x)
  all_goals
    go_enter Tryz.func129, Tryz.ntmps129
    go_wp2
    go_ret
    exact retB rfl (Below.refl _ _)
def dayOk (d : Int) : Bool := decide (0 ≤ d) && decide (d ≤ 1048576)
set_option maxHeartbeats 1000000 in
theorem ask3_any {w : World} {pe pa be : Nat} {A : Ac} {E : En} {vb vp v0 v1 v2 : Value} (h : AskAt w pe pa be A E vb vp v0 v1 v2) : Calls Tryz.prog 130 #[.pointer (some ⟨pa, 0, none⟩)] w (RetB w (A.wrong || (A.dated && !dayOk A.day))) := by
  have c5 : w.cell? ⟨pa, 5, none⟩ = some (.int .i64 A.day) := cell_blk h.pa 5
  have c6 : w.cell? ⟨pa, 6, none⟩ = some (.bool A.dated) := cell_blk h.pa 6
  have c7 : w.cell? ⟨pa, 7, none⟩ = some (.bool A.wrong) := cell_blk h.pa 7
  have HD : Hid (∀ W, Calls Tryz.prog 123 #[.int .i64 A.day] W (RetB W (dayOk A.day))) := Lib.hid (fun W => isDay_any A.day W)
  generalize hq : dayOk A.day = q at *
  generalize A.day = d at *
  generalize A.dated = b at *
  generalize A.wrong = b' at *
  clear h hq
  cases b' <;> cases b <;> cases q
  all_goals
    go_enter Tryz.func130, Tryz.ntmps130
    go_wp2_with (first
      | ((with_reducible refine (HD.out _).mono ?_); rintro en w1 ⟨rfl, hb1⟩)
      | fail)
    go_ret
    first | exact retB rfl (Below.refl _ _) | exact retB rfl hb1
theorem go41 (args : Array Value) (w : World) : (callFunc 133 args).run Tryz.prog w = .ok (.enter 133 args) w := by kernel_rfl
theorem go51 (args : Array Value) (w : World) : (callFunc 135 args).run Tryz.prog w = .ok (.enter 135 args) w := by kernel_rfl
theorem go61 (args : Array Value) (w : World) : (callFunc 137 args).run Tryz.prog w = .ok (.enter 137 args) w := by kernel_rfl
set_option maxHeartbeats 1000000 in
theorem ask41_any {w : World} {pe pa be : Nat} {A : Ac} {E : En} {vb vp v0 v1 v2 : Value} (h : AskAt w pe pa be A E vb vp v0 v1 v2) (o : Og) (v : Value) (hv : ∃ a n c, v = .slice a n c) : Calls Tryz.prog 133 #[.agg (ogC o v), .pointer (some ⟨pa, 0, none⟩)] w (RetB w (o.st != A.st)) := by
  obtain ⟨a, n, c, rfl⟩ := hv
  have HB := Lib.hid (one_below w (.cells #[.int .i64 o.st, .string o.hd, .slice a n c] 149))
  have c4 : (w.alloc (.cells #[.int .i64 o.st, .string o.hd, .slice a n c] 149)).cell? ⟨pa, 4, none⟩ = some (.int .i64 A.st) := cell_blk (blk HB.out (lt_blk h.pa) h.pa) 4
  simp only [ogC]
  generalize A.st = y at *
  generalize o.st = x at *
  generalize o.hd = z at *
  clear h
  cases hb : (x != y)
  all_goals
    go_enter Tryz.func133, Tryz.ntmps133
    go_wp2
    go_ret
    exact retB rfl HB.out
set_option maxHeartbeats 1000000 in
theorem ask51_any {w : World} {pe pa be : Nat} {A : Ac} {E : En} {vb vp v0 v1 v2 : Value} (h : AskAt w pe pa be A E vb vp v0 v1 v2) (o : Og) (v : Value) (hv : ∃ a n c, v = .slice a n c) : Calls Tryz.prog 135 #[.agg (ogC o v), .pointer (some ⟨pa, 0, none⟩)] w (RetB w (!(o.hd.toList == A.by'.toList))) := by
  obtain ⟨a, n, c, rfl⟩ := hv
  have HB := Lib.hid (one_below w (.cells #[.int .i64 o.st, .string o.hd, .slice a n c] 149))
  have c3 : (w.alloc (.cells #[.int .i64 o.st, .string o.hd, .slice a n c] 149)).cell? ⟨pa, 3, none⟩ = some (.string A.by') := cell_blk (blk HB.out (lt_blk h.pa) h.pa) 3
  simp only [ogC]
  generalize A.by' = y at *
  generalize o.st = x at *
  generalize o.hd = z at *
  clear h
  cases hb : (z.toList == y.toList)
  all_goals
    go_enter Tryz.func135, Tryz.ntmps135
    go_wp2
    go_ret
    exact retB rfl HB.out
theorem En.sl {w : World} {be : Nat} {E : En} {vb vp v0 v1 v2 : Value} (h : EnAt w be E vb vp v0 v1 v2) : (∃ a n c, v0 = .slice a n c) ∧ (∃ a n c, v1 = .slice a n c) ∧ (∃ a n c, v2 = .slice a n c) := by
  obtain ⟨a0, c0, e0⟩ := h.c0.shape
  obtain ⟨a1, c1, e1⟩ := h.c1.shape
  obtain ⟨a2, c2, e2⟩ := h.c2.shape
  exact ⟨⟨a0, _, c0, e0⟩, ⟨a1, _, c1, e1⟩, ⟨a2, _, c2, e2⟩⟩
theorem vOf_sl {w : World} {be : Nat} {E : En} {vb vp v0 v1 v2 : Value} (h : EnAt w be E vb vp v0 v1 v2) (k : Nat) : ∃ a n c, vOf v0 v1 v2 k = .slice a n c := by
  obtain ⟨a, c, e⟩ := (h.row k).shape
  exact ⟨a, _, c, e⟩
set_option maxHeartbeats 1000000 in
theorem ask4_any {w : World} {pe pa be : Nat} {A : Ac} {E : En} {vb vp v0 v1 v2 : Value} (h : AskAt w pe pa be A E vb vp v0 v1 v2) : Calls Tryz.prog 131 #[.pointer (some ⟨pe, 0, none⟩), .pointer (some ⟨pa, 0, none⟩)] w (RetB w (E.st != 0 || someB A.idx (fun k => (E.og k).st != A.st))) := by
  have c0 : w.cell? ⟨pe, 0, none⟩ = some (.pointer (some ⟨be, 0, none⟩)) := cell_blk h.pe 0
  have c9 : w.cell? ⟨be, 9, none⟩ = some (.int .i64 E.st) := cell_blk h.en.box 9
  have c1 : w.cell? ⟨pa, 1, none⟩ = some (.int .i64 A.idx) := cell_blk h.pa 1
  obtain ⟨s0, s1, s2⟩ := En.sl h.en
  have HS := Lib.hid (some_any E be vb vp v0 v1 v2 A.idx 133 #[.pointer (some ⟨pa, 0, none⟩)] (fun k => (E.og k).st != A.st) w h.en.box s0 s1 s2 go41 (fun k W _ hW => ask41_any (h.below hW) (E.og k) (vOf v0 v1 v2 k) (vOf_sl h.en k)))
  generalize someB A.idx (fun k => (E.og k).st != A.st) = sb at *
  generalize E.st = x at *
  generalize A.idx = y at *
  clear h s0 s1 s2
  cases hb : (x != 0)
  · go_enter Tryz.func131, Tryz.ntmps131
    go_wp2_with (first
      | ((with_reducible refine HS.out.mono ?_); rintro en w1 ⟨rfl, hb1⟩)
      | fail)
    go_ret
    exact retB rfl hb1
  · go_enter Tryz.func131, Tryz.ntmps131
    go_wp2_with fail
    go_ret
    exact retB rfl (Below.refl _ _)
set_option maxHeartbeats 1000000 in
theorem ask5_any {w : World} {pe pa be : Nat} {A : Ac} {E : En} {vb vp v0 v1 v2 : Value} (h : AskAt w pe pa be A E vb vp v0 v1 v2) : Calls Tryz.prog 134 #[.pointer (some ⟨pe, 0, none⟩), .pointer (some ⟨pa, 0, none⟩)] w (RetB w (someB A.idx (fun k => !((E.og k).hd.toList == A.by'.toList)))) := by
  have c0 : w.cell? ⟨pe, 0, none⟩ = some (.pointer (some ⟨be, 0, none⟩)) := cell_blk h.pe 0
  have c1 : w.cell? ⟨pa, 1, none⟩ = some (.int .i64 A.idx) := cell_blk h.pa 1
  obtain ⟨s0, s1, s2⟩ := En.sl h.en
  have HS := Lib.hid (some_any E be vb vp v0 v1 v2 A.idx 135 #[.pointer (some ⟨pa, 0, none⟩)] (fun k => !((E.og k).hd.toList == A.by'.toList)) w h.en.box s0 s1 s2 go51 (fun k W _ hW => ask51_any (h.below hW) (E.og k) (vOf v0 v1 v2 k) (vOf_sl h.en k)))
  generalize someB A.idx (fun k => !((E.og k).hd.toList == A.by'.toList)) = sb at *
  generalize A.idx = y at *
  clear h s0 s1 s2
  go_enter Tryz.func134, Tryz.ntmps134
  go_wp2_with (first
    | ((with_reducible refine HS.out.mono ?_); rintro en w1 ⟨rfl, hb1⟩)
    | fail)
  go_ret
  exact retB rfl hb1
set_option maxHeartbeats 1000000 in
theorem ask61_any {w : World} {pe pa be : Nat} {A : Ac} {E : En} {vb vp v0 v1 v2 : Value} (h : AskAt w pe pa be A E vb vp v0 v1 v2) (o : Og) (v : Value) (hv : Sl w 4 v (o.ch.map Ed.row)) : Calls Tryz.prog 137 #[.agg (ogC o v), .pointer (some ⟨pa, 0, none⟩), .pointer (some ⟨pe, 0, none⟩)] w (RetB w (decide (A.day < lastD o 0))) := by
  have HL := Lib.hid (fun W (hW : Below w.heap.size w W) => last_any o v 0 W (hv.below hW (Nat.le_refl _)))
  obtain ⟨a, c, rfl⟩ : ∃ a c, v = .slice a o.ch.length c := by simpa using hv.shape
  have HB := Lib.hid (one_below w (.cells #[.int .i64 o.st, .string o.hd, .slice a o.ch.length c] 149))
  have HX := Lib.hid (heap_alloc_new w (.cells #[.int .i64 o.st, .string o.hd, .slice a o.ch.length c] 149))
  have HH := Lib.hid (h.below HB.out)
  obtain ⟨bo, hbo⟩ : ∃ b, b = w.heap.size := ⟨_, rfl⟩
  rw [← hbo] at HX
  simp only [ogC] at HL ⊢
  have HBO := Lib.hid hbo
  generalize lastD o 0 = ld at *
  generalize o.st = x at *
  generalize o.hd = z at *
  generalize o.ch.length = n at *
  clear h hv
  go_enter Tryz.func137, Tryz.ntmps137
  go_wp2_with fail
  (try rw [← hbo])
  clear hbo
  generalize w.alloc (.cells #[.int .i64 x, .string z, .slice a n c] 149) = w1 at *
  refine Any.region_lit (fun
    | 0 => Any.val (.pointer (some ⟨pa, 5, none⟩))
    | 1 => Any.val (.int .i64 A.day)
    | 2 => Any.val (.agg #[.int .i64 x, .string z, .slice a n c])
    | 3 => Any.val (.pointer (some ⟨be, 0, none⟩))
    | 4 => Any.val (.pointer (some ⟨be, 0, none⟩))
    | 5 => Any.val (.pointer (some ⟨be, 0, none⟩))
    | 6 => Any.val (.pointer (some ⟨be, 7, none⟩))
    | 7 => Any.val (.int .i64 0)
    | 8 => Any.val (.int .i64 ld)
    | 9 => Any.val (.bool (decide (A.day < ld)))
    | 10 => Any.val (.bool (decide (A.day < ld)))
    | _ => Any.idle) (by kernel_rfl) (by kernel_rfl) (by kernel_rfl) ?_ ?_ ?_
  · intro i _
    match i with
    | 0 => exact Any.lasts_val _
    | 1 => exact Any.lasts_val _
    | 2 => exact Any.lasts_val _
    | 3 => exact Any.lasts_val _
    | 4 => exact Any.lasts_val _
    | 5 => exact Any.lasts_val _
    | 6 => exact Any.lasts_val _
    | 7 => exact Any.lasts_val _
    | 8 => exact Any.lasts_val _
    | 9 => exact Any.lasts_val _
    | 10 => exact Any.lasts_val _
    | n + 11 => exact Any.lasts_idle
  · refine ⟨?_, ?_, ?_, ?_, ?_, ?_, ?_, ?_, ?_, ?_, ?_, trivial⟩
    · refine Any.owes_plain rfl fun ρ wo hs' hb hc' => ?_
      have h1 : ρ (.tmp 1) = .pointer (some ⟨pa, 0, none⟩) := hs'.old' 1 (by kernel_rfl)
      go_simp
      exact Any.post_val hb rfl rfl
    · refine Any.owes_plain rfl fun ρ wo hs' hb hc' => ?_
      have h5 : ρ (.tmp 5) = .pointer (some ⟨pa, 5, none⟩) := hs'.new' 5 0 (by kernel_rfl)
      have c0 : wo.cell? ⟨pa, 5, none⟩ = some (.int .i64 A.day) := cell_blk (HH.out.below (below_undrew hb)).pa 5
      go_simp
      exact Any.post_val hb rfl rfl
    · refine Any.owes_plain rfl fun ρ wo hs' hb hc' => ?_
      have h3 : ρ (.tmp 3) = .pointer (some ⟨bo, 0, none⟩) := hs'.old' 3 (by kernel_rfl)
      have c0 : wo.cell? ⟨bo, 0, none⟩ = some (.int .i64 x) := cell_blk (blk (below_undrew hb) (lt_blk HX.out) HX.out) 0
      have c1 : wo.cell? ⟨bo, 1, none⟩ = some (.string z) := cell_blk (blk (below_undrew hb) (lt_blk HX.out) HX.out) 1
      have c2 : wo.cell? ⟨bo, 2, none⟩ = some (.slice a n c) := cell_blk (blk (below_undrew hb) (lt_blk HX.out) HX.out) 2
      go_simp
      exact Any.post_val hb rfl rfl
    · refine Any.owes_plain rfl fun ρ wo hs' hb hc' => ?_
      have h2 : ρ (.tmp 2) = .pointer (some ⟨pe, 0, none⟩) := hs'.old' 2 (by kernel_rfl)
      have c0 : wo.cell? ⟨pe, 0, none⟩ = some (.pointer (some ⟨be, 0, none⟩)) := cell_blk (HH.out.below (below_undrew hb)).pe 0
      go_simp
      exact Any.post_val hb rfl rfl
    · refine Any.owes_plain rfl fun ρ wo hs' hb hc' => ?_
      have h8 : ρ (.tmp 8) = .pointer (some ⟨be, 0, none⟩) := hs'.new' 8 3 (by kernel_rfl)
      go_simp
      exact Any.post_val hb rfl rfl
    · refine Any.owes_plain rfl fun ρ wo hs' hb hc' => ?_
      have h9 : ρ (.tmp 9) = .pointer (some ⟨be, 0, none⟩) := hs'.new' 9 4 (by kernel_rfl)
      go_simp
      exact Any.post_val hb rfl rfl
    · refine Any.owes_plain rfl fun ρ wo hs' hb hc' => ?_
      have h10 : ρ (.tmp 10) = .pointer (some ⟨be, 0, none⟩) := hs'.new' 10 5 (by kernel_rfl)
      go_simp
      exact Any.post_val hb rfl rfl
    · refine Any.owes_plain rfl fun ρ wo hs' hb hc' => ?_
      have h11 : ρ (.tmp 11) = .pointer (some ⟨be, 7, none⟩) := hs'.new' 11 6 (by kernel_rfl)
      have c0 : wo.cell? ⟨be, 7, none⟩ = some (.int .i64 0) := cell_blk (HH.out.below (below_undrew hb)).en.box 7
      go_simp
      exact Any.post_val hb rfl rfl
    · refine Any.owes_plain rfl fun ρ wo hs' hb hc' => ?_
      have h7 : ρ (.tmp 7) = .agg #[.int .i64 x, .string z, .slice a n c] := hs'.new' 7 2 (by kernel_rfl)
      have h12 : ρ (.tmp 12) = .int .i64 0 := hs'.new' 12 7 (by kernel_rfl)
      have hf := hs'.func 138
      go_simp
      exact (HL.out wo (HB.out.trans ((below_undrew hb).mono HB.out.size))).mono fun e w' ⟨he, hb'⟩ => ⟨_, he, Any.post_vals hb rfl rfl hb'⟩
    · refine Any.owes_plain rfl fun ρ wo hs' hb hc' => ?_
      have h6 : ρ (.tmp 6) = .int .i64 A.day := hs'.new' 6 1 (by kernel_rfl)
      have h13 : ρ (.tmp 13) = .int .i64 ld := hs'.new' 13 8 (by kernel_rfl)
      go_simp
      exact Any.post_val hb rfl rfl
    · refine Any.owes_plain rfl fun ρ wo hs' hb hc' => ?_
      have h14 : ρ (.tmp 14) = .bool (decide (A.day < ld)) := hs'.new' 14 9 (by kernel_rfl)
      exact Any.ok_assign (Any.post_val hb rfl h14)
  intro vals w5 hb hk ha
  have h10 : vals 10 = .bool (decide (A.day < ld)) := hk 10 (by kernel_rfl)
  have HB5 := Lib.hid (HB.out.trans (hb.mono HB.out.size))
  clear hk ha hb
  simp only [Any.putAll]
  go_frame
  simp only [Nat.zero_add, Nat.reduceAdd]
  rw [h10]
  clear h10
  go_wp2_with fail
  go_ret
  exact retB rfl HB5.out
set_option maxHeartbeats 1000000 in
theorem ask6_any {w : World} {pe pa be : Nat} {A : Ac} {E : En} {vb vp v0 v1 v2 : Value} (h : AskAt w pe pa be A E vb vp v0 v1 v2) : Calls Tryz.prog 136 #[.pointer (some ⟨pa, 0, none⟩), .pointer (some ⟨pe, 0, none⟩)] w (RetB w (A.dated && someB A.idx (fun k => decide (A.day < lastD (E.og k) 0)))) := by
  have c0 : w.cell? ⟨pe, 0, none⟩ = some (.pointer (some ⟨be, 0, none⟩)) := cell_blk h.pe 0
  have c1 : w.cell? ⟨pa, 1, none⟩ = some (.int .i64 A.idx) := cell_blk h.pa 1
  have c6 : w.cell? ⟨pa, 6, none⟩ = some (.bool A.dated) := cell_blk h.pa 6
  obtain ⟨s0, s1, s2⟩ := En.sl h.en
  have HS := Lib.hid (some_any E be vb vp v0 v1 v2 A.idx 137 #[.pointer (some ⟨pa, 0, none⟩), .pointer (some ⟨pe, 0, none⟩)] (fun k => decide (A.day < lastD (E.og k) 0)) w h.en.box s0 s1 s2 go61 (fun k W _ hW => ask61_any (h.below hW) (E.og k) (vOf v0 v1 v2 k) ((h.below hW).en.row k)))
  generalize someB A.idx (fun k => decide (A.day < lastD (E.og k) 0)) = sb at *
  generalize A.idx = y at *
  generalize A.dated = b at *
  clear h s0 s1 s2
  cases b
  · go_enter Tryz.func136, Tryz.ntmps136
    go_wp2_with fail
    go_ret
    exact retB rfl (Below.refl _ _)
  · go_enter Tryz.func136, Tryz.ntmps136
    go_wp2_with (first
      | ((with_reducible refine HS.out.mono ?_); rintro en w1 ⟨rfl, hb1⟩)
      | fail)
    go_ret
    exact retB rfl hb1
theorem goA1 (caps : Array Value) (w : World) : (callFunc 128 caps).run Tryz.prog w = .ok (.enter 128 caps) w := by kernel_rfl
theorem goA2 (caps : Array Value) (w : World) : (callFunc 129 caps).run Tryz.prog w = .ok (.enter 129 caps) w := by kernel_rfl
theorem goA3 (caps : Array Value) (w : World) : (callFunc 130 caps).run Tryz.prog w = .ok (.enter 130 caps) w := by kernel_rfl
theorem goA4 (caps : Array Value) (w : World) : (callFunc 131 caps).run Tryz.prog w = .ok (.enter 131 caps) w := by kernel_rfl
theorem goA5 (caps : Array Value) (w : World) : (callFunc 134 caps).run Tryz.prog w = .ok (.enter 134 caps) w := by kernel_rfl
theorem goA6 (caps : Array Value) (w : World) : (callFunc 136 caps).run Tryz.prog w = .ok (.enter 136 caps) w := by kernel_rfl
def askNo : Nat → Int
  | 0 => 4 | 1 => 3 | 2 => 1 | 3 => 9 | 4 => 8 | _ => 6
def askFn : Nat → FuncId
  | 0 => 128 | 1 => 129 | 2 => 130 | 3 => 131 | 4 => 134 | _ => 136
def askCap (pe pa : Nat) : Nat → Array Value
  | 0 => #[.pointer (some ⟨pe, 0, none⟩)] | 1 => #[.pointer (some ⟨pa, 0, none⟩)] | 2 => #[.pointer (some ⟨pa, 0, none⟩)] | 3 => #[.pointer (some ⟨pe, 0, none⟩), .pointer (some ⟨pa, 0, none⟩)] | 4 => #[.pointer (some ⟨pe, 0, none⟩), .pointer (some ⟨pa, 0, none⟩)] | _ => #[.pointer (some ⟨pa, 0, none⟩), .pointer (some ⟨pe, 0, none⟩)]
def askIf (A : Ac) (E : En) : Nat → Bool
  | 0 => false
  | 1 => decide (A.idx < A.least) || decide (3 ≤ A.idx)
  | 2 => A.wrong || (A.dated && !dayOk A.day)
  | 3 => E.st != 0 || someB A.idx (fun k => (E.og k).st != A.st)
  | 4 => someB A.idx (fun k => !((E.og k).hd.toList == A.by'.toList))
  | _ => A.dated && someB A.idx (fun k => decide (A.day < lastD (E.og k) 0))
def askC (A : Ac) (E : En) : Int := firstFrom askNo (askIf A E) 6 0
def askCells (pe pa : Nat) : Array Value := #[.int .i64 4, .func (.func (askFn 0)) #[] (askCap pe pa 0), .int .i64 3, .func (.func (askFn 1)) #[] (askCap pe pa 1), .int .i64 1, .func (.func (askFn 2)) #[] (askCap pe pa 2), .int .i64 9, .func (.func (askFn 3)) #[] (askCap pe pa 3), .int .i64 8, .func (.func (askFn 4)) #[] (askCap pe pa 4), .int .i64 6, .func (.func (askFn 5)) #[] (askCap pe pa 5)]
theorem ask_first {w : World} {pe pa be bs : Nat} {A : Ac} {E : En} {vb vp v0 v1 v2 : Value} (h : AskAt w pe pa be A E vb vp v0 v1 v2) (hs : w.heap[bs]? = some (.cells (askCells pe pa) 142 (0, 0))) :
    Calls Tryz.prog 61 #[.slice (some ⟨bs, 0, none⟩) 6 6] w (Ret w (.int .i64 (askC A E))) := by
  refine (firstR_gen 6 (by decide) bs askNo askFn (askCap pe pa) (askIf A E) (fun _ W => Below w.heap.size w W) (Below w.heap.size w) w (Below.refl _ _) ?_ ?_ ?_ ?_ (fun _ h => h)).mono (fun e w' h => h)
  · intro i hi w'
    match i, hi with
    | 0, _ => exact goA1 _ _
    | 1, _ => exact goA2 _ _
    | 2, _ => exact goA3 _ _
    | 3, _ => exact goA4 _ _
    | 4, _ => exact goA5 _ _
    | 5, _ => exact goA6 _ _
  · intro i w' hi hb
    have hs' := blk hb (lt_blk hs) hs
    have q0 := cell_blk hs' (2 * i)
    have q1 := cell_blk hs' (2 * i + 1)
    rw [q0, q1]
    match i, hi with
    | 0, _ => exact ⟨rfl, rfl⟩
    | 1, _ => exact ⟨rfl, rfl⟩
    | 2, _ => exact ⟨rfl, rfl⟩
    | 3, _ => exact ⟨rfl, rfl⟩
    | 4, _ => exact ⟨rfl, rfl⟩
    | 5, _ => exact ⟨rfl, rfl⟩
  · intro i w' o hb
    exact hb.trans ((one_below w' o).mono hb.size)
  · intro i w' hi hb
    have hh := h.below hb
    have hlt : bs < w'.heap.size := Nat.lt_of_lt_of_le (lt_blk hs) hb.size
    have key : ∀ {b : Bool} {f : FuncId} {c : Array Value}, Calls Tryz.prog f c w' (RetB w' b) → Calls Tryz.prog f c w' fun e w'' => e = .returned (.bool b) ∧ (b = false → Below w.heap.size w w'') ∧ (b = true → Below w.heap.size w w'') ∧ w''.cell? ⟨w'.heap.size - 1, 0, none⟩ = w'.cell? ⟨w'.heap.size - 1, 0, none⟩ := fun hc =>
      hc.mono fun e w'' hr => ⟨hr.1, fun _ => hb.trans (hr.2.mono hb.size), fun _ => hb.trans (hr.2.mono hb.size), World.cell?_of_block (a := ⟨w'.heap.size - 1, 0, none⟩) (hr.2.block _ (by simp; omega))⟩
    match i, hi with
    | 0, _ => exact key (ask1_any hh)
    | 1, _ => exact key (ask2_any hh)
    | 2, _ => exact key (ask3_any hh)
    | 3, _ => exact key (ask4_any hh)
    | 4, _ => exact key (ask5_any hh)
    | 5, _ => exact key (ask6_any hh)
def b1B : ByteArray := ⟨#[98, 49]⟩
/-- The register: its box, its map. -/
structure RgAt (w : World) (br bm be : Nat) : Prop where
  rb : w.heap[br]? = some (.cells #[.string ⟨#[108, 105, 110, 101]⟩, .map (some bm)] 135 (0, 0))
  mp : Mp.MapAt w bm [(b1B, .pointer (some ⟨be, 0, none⟩))]
theorem RgAt.below {w w' : World} {br bm be : Nat} (h : RgAt w br bm be) (hb : Below w.heap.size w w') : RgAt w' br bm be := ⟨blk hb (lt_blk h.rb) h.rb, h.mp.same (hb.block _ h.mp.lt)⟩
theorem zeroEn (w : World) : (zeroValue 143).run Tryz.prog w = .ok (.pointer none) w := by kernel_rfl
set_option maxHeartbeats 2000000 in
theorem ask_any (A : Ac) (E : En) (br bm be : Nat) (vb vp v0 v1 v2 : Value) (w : World) (hA : A.bill = b1B) (hr : RgAt w br bm be) (he : EnAt w be E vb vp v0 v1 v2) :
    Calls Tryz.prog 71 #[.pointer (some ⟨br, 0, none⟩), .agg A.cells] w (Ret w (.int .i64 (askC A E))) := by
  have HXA := Lib.hid (heap_alloc_new w (.cells A.cells 155))
  have HB := Lib.hid (one_below w (.cells A.cells 155))
  have HR := Lib.hid (hr.below HB.out)
  have HE := Lib.hid (he.below HB.out)
  obtain ⟨pa, hpa⟩ : ∃ b, b = w.heap.size := ⟨_, rfl⟩
  rw [← hpa] at HXA
  have HF : Hid (∀ (W : World) (pe bs : Nat), AskAt W pe pa be A E vb vp v0 v1 v2 → W.heap[bs]? = some (.cells (askCells pe pa) 142 (0, 0)) → Calls Tryz.prog 61 #[.slice (some ⟨bs, 0, none⟩) 6 6] W (Ret W (.int .i64 (askC A E)))) := Lib.hid (fun W pe bs h hs => ask_first h hs)
  have HPA := Lib.hid hpa
  generalize askC A E = cd at *
  obtain ⟨ab, ai, al, ay, at', ad, aq, aw⟩ := A
  simp only at hA
  subst hA
  simp only [Ac.cells] at HB HR HE HXA ⊢
  clear hr he
  go_enter Tryz.func71, Tryz.ntmps71
  go_wp2_with fail
  (try rw [← hpa])
  clear hpa
  generalize w.alloc (.cells #[.string b1B, .int .i64 ai, .int .i64 al, .string ay, .int .i64 at', .int .i64 ad, .bool aq, .bool aw] 155) = w1 at *
  refine Any.region_litL (fun
    | 0 => Any.val (.pointer (some ⟨br, 0, none⟩))
    | 1 => Any.val (.pointer (some ⟨br, 0, none⟩))
    | 2 => Any.val (.pointer (some ⟨br, 1, none⟩))
    | 3 => Any.val (.map (some bm))
    | 4 => Any.val (.pointer (some ⟨pa, 0, none⟩))
    | 5 => Any.val (.string b1B)
    | 6 => Any.val (.pointer (some ⟨be, 0, none⟩))
    | 7 => Any.boxS w1.heap.size 143 #[.pointer none]
    | _ => Any.idle) 8 _ (by kernel_rfl) rfl rfl rfl (by kernel_rfl) (by kernel_rfl) (by kernel_rfl) ?_ ?_ ?_
  · intro i _
    match i with
    | 0 => exact Any.lasts_val _
    | 1 => exact Any.lasts_val _
    | 2 => exact Any.lasts_val _
    | 3 => exact Any.lasts_val _
    | 4 => exact Any.lasts_val _
    | 5 => exact Any.lasts_val _
    | 6 => exact Any.lasts_val _
    | 7 => exact Any.lasts_box _ _ _
    | n + 8 => exact Any.lasts_idle
  · simp only [List.take_succ_cons, List.take_zero]
    refine ⟨?_, ?_, ?_, ?_, ?_, ?_, ?_, ?_, trivial⟩
    · refine Any.owes_plain rfl fun ρ wo hs' hb hc' => ?_
      have h0 : ρ (.tmp 0) = .pointer (some ⟨br, 0, none⟩) := hs'.old' 0 (by kernel_rfl)
      exact Any.ok_move (Any.post_val hb rfl h0)
    · refine Any.owes_plain rfl fun ρ wo hs' hb hc' => ?_
      have h6 : ρ (.tmp 6) = .pointer (some ⟨br, 0, none⟩) := hs'.new' 6 0 (by kernel_rfl)
      go_simp
      exact Any.post_val hb rfl rfl
    · refine Any.owes_plain rfl fun ρ wo hs' hb hc' => ?_
      have h7 : ρ (.tmp 7) = .pointer (some ⟨br, 0, none⟩) := hs'.new' 7 1 (by kernel_rfl)
      go_simp
      exact Any.post_val hb rfl rfl
    · refine Any.owes_plain rfl fun ρ wo hs' hb hc' => ?_
      have h8 : ρ (.tmp 8) = .pointer (some ⟨br, 1, none⟩) := hs'.new' 8 2 (by kernel_rfl)
      have c0 : wo.cell? ⟨br, 1, none⟩ = some (.map (some bm)) := cell_blk (HR.out.below (below_undrew hb)).rb 1
      go_simp
      exact Any.post_val hb rfl rfl
    · refine Any.owes_plain rfl fun ρ wo hs' hb hc' => ?_
      have h3 : ρ (.tmp 3) = .pointer (some ⟨pa, 0, none⟩) := hs'.old' 3 (by kernel_rfl)
      go_simp
      exact Any.post_val hb rfl rfl
    · refine Any.owes_plain rfl fun ρ wo hs' hb hc' => ?_
      have h10 : ρ (.tmp 10) = .pointer (some ⟨pa, 0, none⟩) := hs'.new' 10 4 (by kernel_rfl)
      have c0 : wo.cell? ⟨pa, 0, none⟩ = some (.string b1B) := cell_blk (blk (below_undrew hb) (lt_blk HXA.out) HXA.out) 0
      go_simp
      exact Any.post_val hb rfl rfl
    · refine Any.owes_plain rfl fun ρ wo hs' hb hc' => ?_
      have h9 : ρ (.tmp 9) = .map (some bm) := hs'.new' 9 3 (by kernel_rfl)
      have h11 : ρ (.tmp 11) = .string b1B := hs'.new' 11 5 (by kernel_rfl)
      exact Mp.ok_lookup (l := [(b1B, .pointer (some ⟨be, 0, none⟩))]) Tryz.underlying133 Tryz.underlying9 (zeroEn _) h9 h11 (HR.out.below (below_undrew hb)).mp (Any.post_val hb rfl (by rfl))
    · refine Any.owes_plain rfl fun ρ wo hs' hb hc' => ?_
      go_simp
      exact Any.post_new hb ⟨_, rfl, (show w1.heap.size ≤ wo.heap.size from hb.size), heap_alloc_new _ _⟩ (one_below _ _) (by intro b hb'; obtain rfl : wo.heap.size = b := Option.some.inj hb'; exact Nat.le_refl _)
  intro vals w5 hb hk
  have h6 : vals 6 = .pointer (some ⟨be, 0, none⟩) := hk 6 (by kernel_rfl)
  have hq : (Any.boxS w1.heap.size 143 #[.pointer none]).know (vals 7) w5 := hk 7 (by kernel_rfl)
  have HB5 := Lib.hid (HB.out.trans (hb.mono HB.out.size))
  have HBU := Lib.hid hb
  have HQ := Lib.hid hq
  clear hk hb hq
  simp only [List.take_succ_cons, List.take_zero, Any.putAll]
  go_frame
  simp only [Nat.zero_add, Nat.reduceAdd]
  rw [h6]
  clear h6
  generalize vals 7 = v5 at *
  obtain ⟨pe, hv, hpe, hx⟩ := HQ.out
  rw [hv]
  have HPE := Lib.hid (And.intro hpe hx)
  have c0 := cell_blk hx 0
  have f0 := free_blk hx 0
  clear hv HQ hx hpe
  go_simp
  have HB6 := Lib.hid (HBU.out.setCell (p := ⟨pe, 0, none⟩) HPE.out.1 (.pointer (some ⟨be, 0, none⟩)))
  have HX6 : Hid ((w5.setCell ⟨pe, 0, none⟩ (.pointer (some ⟨be, 0, none⟩))).heap[pe]? = some (.cells #[.pointer (some ⟨be, 0, none⟩)] 143 (0, 0))) := Lib.hid (by simp [World.setCell, Array.getElem?_modify, HPE.out.2])
  generalize w5.setCell ⟨pe, 0, none⟩ (.pointer (some ⟨be, 0, none⟩)) = w6 at *
  have HK6 : Hid (AskAt w6 pe pa be ⟨b1B, ai, al, ay, at', ad, aq, aw⟩ E vb vp v0 v1 v2) := Lib.hid ⟨HX6.out, blk HB6.out (lt_blk HXA.out) HXA.out, HE.out.below HB6.out⟩
  have hn7 := heap_alloc_new w6 (.cells (askCells pe pa) 142)
  have hb7 := one_below w6 (.cells (askCells pe pa) 142)
  have HFF := Lib.hid (HF.out _ pe _ (HK6.out.below hb7) hn7)
  have HB7 := Lib.hid (HB.out.trans ((HB6.out.trans (hb7.mono HB6.out.size)).mono HB.out.size))
  unfold askCells at HFF HB7
  simp only [askFn, askCap] at HFF HB7
  clear hn7 hb7 c0 f0
  go_wp2_with (first
    | ((with_reducible refine HFF.out.mono ?_); rintro en w8 ⟨rfl, hb8⟩; have HB8 := Lib.hid (HB7.out.trans (hb8.mono HB7.out.size)); clear hb8)
    | fail)
  go_ret
  exact ⟨rfl, HB8.out⟩
end Go.Proofs.YtbigoifpfkdkjaaGreatDoor.Sc
