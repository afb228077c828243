/- Release, Transit, Export, State of a bond. -/
import Derived.Test.YtehlhfcaajhhaaaLeave45
namespace Go.Proofs.Ytehlhfcaajhhaaa.Sc
open Go Go.RowKit Go.ChangeShapes Go.WideShapes Go.ChangeAt
set_option maxRecDepth 100000

theorem BondP.under {w w0 : World} {bp bm : Nat} {L : Int} {l : List Bx} {v : Value} {e : Ending} {w' : World} (hb : Below w.heap.size w w0) (h : BondP w0 bp bm L l v e w') : BondP w bp bm L l v e w' :=
  ⟨h.1, h.2.1, (Keep.of_below hb).trans h.2.2 (fun _ _ e => e)⟩
def rfRel (paid : Int) (b : Bx) : Int := if paid < b.duty then 10 else 0
def rfTra (to : ByteArray) (day : Int) (b : Bx) : Int := if nameOk to = false then 1 else if b.day < day then 11 else 0
def rfExp (_ : Bx) : Int := 0
theorem rel_cl (b : Bx) (q : Nat) (paid : Int) (T : TypeId) (W : World) (hq : W.heap[q]? = some (.cells #[.int .i64 paid] T (0, 0))) : Calls Try.prog 42 #[b.val, .pointer (some ⟨q, 0, none⟩)] W (Ret W (.int .i64 (rfRel paid b))) := by
  obtain ⟨n, d, y, s⟩ := b
  simp only [Bx.val]
  have c0 := cell_blk hq 0
  have hlt := lt_blk hq
  by_cases h : paid < d
  · have t : decide (paid < d) = true := decide_eq_true h
    have HQ : Hid (rfRel paid ⟨n, d, y, s⟩ = 10) := Lib.hid (if_pos h)
    clear h hq
    go_enter Try.func42, Try.ntmps42
    go_wp2
    go_ret
    exact ⟨by rw [HQ.out]; rfl, one_below _ _⟩
  · have t : decide (paid < d) = false := decide_eq_false h
    have HQ : Hid (rfRel paid ⟨n, d, y, s⟩ = 0) := Lib.hid (if_neg h)
    clear h hq
    go_enter Try.func42, Try.ntmps42
    go_wp2
    go_ret
    exact ⟨by rw [HQ.out]; rfl, one_below _ _⟩
theorem exp_cl (b : Bx) (W : World) : Calls Try.prog 44 #[b.val] W (Ret W (.int .i64 (rfExp b))) := by
  obtain ⟨n, d, y, s⟩ := b
  simp only [Bx.val]
  go_enter Try.func44, Try.ntmps44
  go_wp2
  go_ret
  exact ⟨rfl, one_below _ _⟩
theorem tra_cl (b : Bx) (q q2 : Nat) (to : ByteArray) (day : Int) (T T2 : TypeId) (W : World) (hq : W.heap[q]? = some (.cells #[.string to] T (0, 0))) (hq2 : W.heap[q2]? = some (.cells #[.int .i64 day] T2 (0, 0))) :
    Calls Try.prog 59 #[b.val, .pointer (some ⟨q, 0, none⟩), .pointer (some ⟨q2, 0, none⟩)] W (Ret W (.int .i64 (rfTra to day b))) := by
  obtain ⟨n, d, y, s⟩ := b
  simp only [Bx.val]
  have c0 := cell_blk hq 0
  have hlt := lt_blk hq
  have HQ2 := Lib.hid hq2
  have HN := Lib.hid (fun W => dutyName_any to W)
  have HE := Lib.hid (heap_alloc_new W (.cells #[.int .i64 d, .int .i64 y, .int .i64 s] 91))
  cases hn : nameOk to
  · rw [hn] at HN
    have HQ : Hid (rfTra to day ⟨n, d, y, s⟩ = 1) := Lib.hid (if_pos hn)
    clear hn hq hq2
    go_enter Try.func59, Try.ntmps59
    go_wp2_with (first
      | ((with_reducible refine (HN.out _).mono ?_); rintro e w2 ⟨rfl, hb2⟩; have HB := Lib.hid (below_then (one_below _ _) hb2); clear hb2)
      | fail)
    go_ret
    exact ⟨by rw [HQ.out]; rfl, HB.out⟩
  · rw [hn] at HN
    by_cases h : y < day
    · have t : decide (y < day) = true := decide_eq_true h
      have HQ : Hid (rfTra to day ⟨n, d, y, s⟩ = 11) := Lib.hid (by rw [rfTra, if_neg (by rw [hn]; decide)]; exact if_pos h)
      clear hn hq hq2 h
      go_enter Try.func59, Try.ntmps59
      go_wp2_with (first
        | ((with_reducible refine (HN.out _).mono ?_); rintro e w2 ⟨rfl, hb2⟩; have HB := Lib.hid (below_then (one_below _ _) hb2); have e1 := cell_blk (blk hb2 (lt_blk HE.out) HE.out) 1; have e2 := cell_blk (blk HB.out (lt_blk HQ2.out) HQ2.out) 0; clear hb2)
        | fail)
      go_ret
      exact ⟨by rw [HQ.out]; rfl, HB.out⟩
    · have t : decide (y < day) = false := decide_eq_false h
      have HQ : Hid (rfTra to day ⟨n, d, y, s⟩ = 0) := Lib.hid (by rw [rfTra, if_neg (by rw [hn]; decide)]; exact if_neg h)
      clear hn hq hq2 h
      go_enter Try.func59, Try.ntmps59
      go_wp2_with (first
        | ((with_reducible refine (HN.out _).mono ?_); rintro e w2 ⟨rfl, hb2⟩; have HB := Lib.hid (below_then (one_below _ _) hb2); have e1 := cell_blk (blk hb2 (lt_blk HE.out) HE.out) 1; have e2 := cell_blk (blk HB.out (lt_blk HQ2.out) HQ2.out) 0; clear hb2)
        | fail)
      go_ret
      exact ⟨by rw [HQ.out]; rfl, HB.out⟩
set_option maxHeartbeats 2000000 in
theorem release_any (l : List Bx) (L : Int) (bp bm : Nat) (n : ByteArray) (paid : Int) (w : World) (h : Bst w bp bm L l) :
    Calls Try.prog 18 #[.pointer (some ⟨bp, 0, none⟩), .string n, .int .i64 paid] w (BondP w bp bm L (leaveL l n 1 (rfRel paid)) (.int .i64 (leaveC l n (rfRel paid)))) := by
  have HQ := Lib.hid (heap_alloc_new w (.cells #[.int .i64 paid] 2))
  have HL := Lib.hid (leave1_any l L bp bm n 1 (rfRel paid) w.heap.size (w.alloc (.cells #[.int .i64 paid] 2)) (h.below (one_below _ _)) (.inl rfl) (fun b W hW => rel_cl b _ paid _ W (blk hW (lt_blk HQ.out) HQ.out)))
  clear h
  go_enter Try.func18, Try.ntmps18
  go_wp2_with (first
    | ((with_reducible refine HL.out.mono ?_); rintro e w2 ⟨rfl, hs, hk⟩; have HR := Lib.hid (And.intro hs hk); clear hs hk)
    | fail)
  go_ret
  exact BondP.under (one_below _ _) ⟨rfl, HR.out.1, HR.out.2⟩
set_option maxHeartbeats 2000000 in
theorem export_any (l : List Bx) (L : Int) (bp bm : Nat) (n : ByteArray) (w : World) (h : Bst w bp bm L l) :
    Calls Try.prog 23 #[.pointer (some ⟨bp, 0, none⟩), .string n] w (BondP w bp bm L (leaveL l n 2 rfExp) (.int .i64 (leaveC l n rfExp))) := by
  have HL := Lib.hid (leave3_any l L bp bm n 2 rfExp w h (.inr rfl) (fun b W _ => exp_cl b W))
  clear h
  go_enter Try.func23, Try.ntmps23
  go_wp2_with (first
    | ((with_reducible refine HL.out.mono ?_); rintro e w2 ⟨rfl, hs, hk⟩; have HR := Lib.hid (And.intro hs hk); clear hs hk)
    | fail)
  go_ret
  exact ⟨rfl, HR.out.1, HR.out.2⟩
set_option maxHeartbeats 2000000 in
theorem transit_any (l : List Bx) (L : Int) (bp bm : Nat) (n to : ByteArray) (day : Int) (w : World) (h : Bst w bp bm L l) :
    Calls Try.prog 39 #[.pointer (some ⟨bp, 0, none⟩), .string n, .string to, .int .i64 day] w (BondP w bp bm L (leaveL l n 2 (rfTra to day)) (.int .i64 (leaveC l n (rfTra to day)))) := by
  have hb2 : Below w.heap.size w ((w.alloc (.cells #[.string to] 9)).alloc (.cells #[.int .i64 day] 3)) := (one_below _ _).alloc (by simp) _
  have q1 : ((w.alloc (.cells #[.string to] 9)).alloc (.cells #[.int .i64 day] 3)).heap[w.heap.size]? = some (.cells #[.string to] 9 (0, 0)) := blk (one_below _ _) (by simp) (heap_alloc_new _ _)
  have q2 : ((w.alloc (.cells #[.string to] 9)).alloc (.cells #[.int .i64 day] 3)).heap[w.heap.size + 1]? = some (.cells #[.int .i64 day] 3 (0, 0)) := by
    have := heap_alloc_new (w.alloc (.cells #[.string to] 9)) (.cells #[.int .i64 day] 3); simpa using this
  have HB2 := Lib.hid hb2
  have HL := Lib.hid (leave2_any l L bp bm n 2 (rfTra to day) w.heap.size (w.heap.size + 1) _ (h.below hb2) (.inr rfl) (fun b W hW => tra_cl b _ _ to day _ _ W (blk hW (lt_blk q1) q1) (blk hW (lt_blk q2) q2)))
  clear h hb2 q1 q2
  go_enter Try.func39, Try.ntmps39
  go_wp2_with (first
    | ((with_reducible refine HL.out.mono ?_); rintro e w2 ⟨rfl, hs, hk⟩; have HR := Lib.hid (And.intro hs hk); clear hs hk)
    | fail)
  go_ret
  exact BondP.under HB2.out ⟨rfl, HR.out.1, HR.out.2⟩
/-- A box's state; -1: it never was entered. -/
def stateOf (l : List Bx) (n : ByteArray) : Int := match boxOf l n with
  | none => -1
  | some b => b.st
set_option maxHeartbeats 2000000 in
theorem state_any (l : List Bx) (L : Int) (bp bm : Nat) (n : ByteArray) (w : World) (h : Bst w bp bm L l) :
    Calls Try.prog 20 #[.pointer (some ⟨bp, 0, none⟩), .string n] w (Ret w (.int .i64 (stateOf l n))) := by
  obtain ⟨es, hm, hp⟩ := h.map
  have HM := Lib.hid hm
  have c2 := cell_blk h.box 2
  cases hh : boxOf l n with
  | none =>
    have HG := Lib.hid (bget_none hp (boxOf_none hh))
    have HQ : Hid (stateOf l n = -1) := Lib.hid (by rw [stateOf, hh])
    clear h hm hp hh
    go_enter Try.func20, Try.ntmps20
    go_wp2_with (first
      | ((with_reducible refine Mp.wpl_miss (l := es) (key := n) ?_ ?_ ?_ Try.underlying93 Try.underlying9 (zeroEnt _) HM.out HG.out ?_); rfl; rfl; rfl)
      | fail)
    go_ret
    exact ⟨by rw [HQ.out]; rfl, one_below _ _⟩
  | some b =>
    have HG := Lib.hid (boxOf_get hp hm.nodup hh)
    obtain ⟨bn, bd, by_, bs⟩ := b
    simp only [Bx.val] at HG
    have HQ : Hid (stateOf l n = bs) := Lib.hid (by rw [stateOf, hh])
    clear h hm hp hh
    go_enter Try.func20, Try.ntmps20
    go_wp2_with (first
      | ((with_reducible refine Mp.wpl_got (l := es) (key := n) ?_ ?_ ?_ Try.underlying93 Try.underlying9 (zeroEnt _) HM.out HG.out ?_); rfl; rfl; rfl)
      | fail)
    go_ret
    exact ⟨by rw [HQ.out]; rfl, one_below _ _⟩
end Go.Proofs.Ytehlhfcaajhhaaa.Sc
