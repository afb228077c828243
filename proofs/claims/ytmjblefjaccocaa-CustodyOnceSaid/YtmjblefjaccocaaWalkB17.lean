/- The program's chain: As, Now, History. -/
import Derived.Test.YtmjblefjaccocaaWalkA17
namespace Go.Proofs.Ytmjblefjaccocaa.Sc
open Go Go.RowKit Go.ChangeShapes Go.WideShapes Go.ChangeAt Mp

theorem hist_val {w : World} {F : Nat → Prop} {bp bm : Nat} {l : Ents} {done : List Hd} (h : Ch w F bp bm l done) (k : ByteArray) :
    ∃ a c, (mget l k).getD (.slice none 0 0) = .slice a (ownOf done k).length c ∧ Sl w 5 (.slice a (ownOf done k).length c) ((ownOf done k).map Hd.row) := by
  rcases mget_has h k with ⟨v, hg, hh⟩ | ⟨hg, hh⟩
  · obtain ⟨a, c, rfl⟩ := own_shape hh.1
    exact ⟨a, c, by rw [hg]; rfl, own_hands hh.1 rfl⟩
  · rw [hg, hh]
    exact ⟨none, 0, rfl, .inl ⟨rfl, none, 0, rfl, fun _ => rfl⟩⟩

set_option maxRecDepth 5000 in
set_option maxHeartbeats 2000000 in
theorem as_any (box : ByteArray) (d : Int) (p : Value) (done : List Hd) (F : Nat → Prop) (w : World) (hc : Chain w F p done) (hlen : done.length ≤ 4000) :
    Calls Try.prog 13 #[p, .string box, .int .i64 d] w (Ret3 w (asOf (ownOf done box) d)) := by
  obtain ⟨bp, bm, l, rfl, hch⟩ := hc
  have hno : (ownOf done box).length ≤ 4000 := by have := ownOf_len done box; omega
  obtain ⟨a, c, hv, hs⟩ := hist_val hch box
  have HV := Lib.hid hv
  have HROW := Lib.hid hs
  have HC := Lib.hid hch
  have c0 := cell_blk hch.ptr 0
  simp only [List.getElem?_toArray, List.getElem?_cons_zero] at c0
  clear hv hs hch hlen
  go_enter Try.func13, Try.ntmps13
  generalize ownOf done box = own at *
  go_wp2_with (first
    | ((with_reducible refine Mp.wpl_val ?_ ?_ ?_ Try.underlying60 Try.underlying9 (zeroHs _) HC.out.map HV.out ?_); rfl; rfl; rfl)
    | fail)
  go_loopw [10] (fun i wr => ∃ (k : Nat) (z : Int), k ≤ own.length ∧ z = k - 1 ∧ i = .int .i64 z ∧ asOf own d = asOf (own.take k) d ∧ wr = w) (fun i _ => (intOf i + 1).toNat)
  case atStart => exact ⟨own.length, _, Nat.le_refl _, rfl, rfl, by rw [List.take_length], rfl⟩
  case round =>
    obtain ⟨k, z, hk, hz, rfl, hrel, rfl⟩ := hrel
    have HR := Lib.hid hrel
    clear hrel
    rcases k with _ | m
    · have t0 : decide ((0 : Int) ≤ z) = false := decide_eq_false (by omega)
      clear hz
      go_wp2_with fail
      go_ret3
      exact ret3 (by rw [HR.out]; rfl) (Below.refl _ _)
    · obtain rfl : z = m := by omega
      obtain ⟨b, off, rfl, -, hb, hc⟩ := HROW.out.at (i := m) (by simp; omega)
      have hr := hc m own[m].row (by simp [show m < own.length from hk])
      have d2 := hr 2 _ rfl
      have d3 := hr 3 _ rfl
      have d4 := hr 4 _ rfl
      have HT := Lib.hid (asOf_take own d m hk)
      clear hr hc hz
      generalize own[m] = x at *
      by_cases hd : x.day ≤ d
      · have HD := Lib.hid hd
        have t1 : decide (x.day ≤ d) = true := decide_eq_true hd
        clear hd
        go_wp2_with fail
        go_quiet (fail)
        go_wp2_with fail
        go_ret3
        exact ret3 (by rw [HR.out, HT.out, if_pos HD.out]) (below_drewN (Below.refl _ _) _)
      · have HD := Lib.hid (show ¬ x.day ≤ d from hd)
        have t1 : decide (x.day ≤ d) = false := decide_eq_false hd
        clear hd
        go_wp2_with fail
        go_roundw
        case rel => exact ⟨m, _, by omega, rfl, rfl, by rw [HR.out, HT.out, if_neg HD.out], by trivial⟩
        case measure => simp [intOf]

theorem now_any (box : ByteArray) (p : Value) (done : List Hd) (F : Nat → Prop) (w : World) (hc : Chain w F p done) (hlen : done.length ≤ 4000) :
    Calls Try.prog 18 #[p, .string box] w (Ret3 w (asOf (ownOf done box) 1048576)) := by
  have HC := Lib.hid hc
  have HL := Lib.hid hlen
  clear hc hlen
  go_enter Try.func18, Try.ntmps18
  go_wp2_with (first | ((with_reducible refine (as_any box 1048576 p done F _ HC.out HL.out).mono ?_); rintro e w1 ⟨rfl, hb1⟩; skip) | fail)
  go_ret3
  exact ret3 rfl hb1

set_option maxRecDepth 5000 in
set_option maxHeartbeats 1000000 in
/-- A copy of hand-overs: nil of nil. -/
theorem cloneHs_any (l : List Hd) (v : Value) (w : World) (hs : Sl w 5 v (l.map Hd.row)) (hlen : l.length ≤ 1000000) :
    Calls Try.prog 31 #[v] w (RetRow w 41 5 l.length (hdCells l)) := by
  obtain ⟨a, c, rfl⟩ : ∃ a c, v = .slice a l.length c := by simpa using hs.shape
  have q1 : ∀ (w : World) (a : Option Addr) (n c : Nat), (binOp .eql 22 (.slice a n c) (.slice none 0 0)).run Try.prog w = .ok (.bool a.isNone) w := fun w a n c => run_eql_nilslice Try.underlying22 w a n c
  obtain ⟨i0, hi, hz, hsz, hby⟩ := info_parts infoHd
  have HI := Lib.hid (And.intro hi (And.intro hz (And.intro hsz hby)))
  clear hi hz hsz hby
  have HS := Lib.hid hs
  cases a with
  | none =>
    have hn : l = [] := by
      rcases hs with ⟨h, _⟩ | ⟨b, off, cap, h, _⟩
      · simpa using h
      · simp at h
    subst hn
    clear hs
    go_enter Try.func31, Try.ntmps31
    go_wp2_with fail
    go_ret
    exact retRow (World.ownsRow_nil w w.heap.size _ _) (Nat.le_refl _) (Below.refl _ _)
  | some ad =>
    have HL : Hid (0 + l.length ≤ maxLen ∧ (0 + l.length) * 72 ≤ 140737488355328) := Lib.hid (by simp only [maxLen]; omega)
    have HSRC : Hid (Src (w.alloc (.cells #[] 41)) 5 (.slice (some ad) l.length c) l.length (hdCells l)) := Lib.hid (by
      have := (hs.below (one_below w (.cells #[] 41)) (Nat.le_refl _)).src (hd_rows l) (by decide)
      rw [hdCells_flat]
      simpa using this)
    have HOWN : Hid ((w.alloc (.cells #[] 41)).ownsRow w.heap.size 41 5 (.slice (some ⟨w.heap.size, 0, none⟩) 0 0) 0 []) := Lib.hid (World.ownsRow_made w #[] 0 (Nat.le_refl _) (by simp [maxLen]) rfl)
    clear hs
    go_enter Try.func31, Try.ntmps31
    go_wp2_with (first
      | ((with_reducible refine Any.wpl_append ?_ ?_ ?_ Try.underlying22 HI.out.1 HI.out.2.1 HI.out.2.2.1 HI.out.2.2.2 ?_ (by decide) HOWN.out HSRC.out (hdCells_one l) HL.out.1 HL.out.2 ?_ ?_); rfl; rfl; rfl; rfl; (simp); intro v1 w1 hown1 hgrow1 hwho1)
      | fail)
    go_ret
    exact retRow (B := w.heap.size) (by simpa using hown1) (Nat.le_refl _) ((one_below w _).grown hgrow1 (by simp) (fun k hk => by obtain rfl : w.heap.size = k := Option.some.inj hk; exact Nat.le_refl _))

theorem history_any (box : ByteArray) (p : Value) (done : List Hd) (F : Nat → Prop) (w : World) (hc : Chain w F p done) (hlen : done.length ≤ 4000) :
    Calls Try.prog 15 #[p, .string box] w (RetRow w 41 5 (ownOf done box).length (hdCells (ownOf done box))) := by
  obtain ⟨bp, bm, l, rfl, hch⟩ := hc
  obtain ⟨a, c, hv, hs⟩ := hist_val hch box
  have HNO : Hid ((ownOf done box).length ≤ 1000000) := Lib.hid (by have := ownOf_len done box; omega)
  have HV := Lib.hid hv
  have HROW := Lib.hid hs
  have HC := Lib.hid hch
  have c0 := cell_blk hch.ptr 0
  simp only [List.getElem?_toArray, List.getElem?_cons_zero] at c0
  clear hv hs hch hlen
  go_enter Try.func15, Try.ntmps15
  go_wp2_with (first
    | ((with_reducible refine Mp.wpl_val ?_ ?_ ?_ Try.underlying60 Try.underlying9 (zeroHs _) HC.out.map HV.out ?_); rfl; rfl; rfl)
    | ((with_reducible refine (cloneHs_any (ownOf done box) _ _ HROW.out HNO.out).mono ?_); rintro e w1 ⟨v1, rfl, hown1, hb1⟩; skip)
    | fail)
  go_ret
  exact retRow hown1 (Nat.le_refl _) hb1
end Go.Proofs.Ytmjblefjaccocaa.Sc
