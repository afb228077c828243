/- The laws' arguments; their sizes; whether a credit may live. -/
import Derived.Test.YtjabjfkfoenmlaaAwake34
namespace Go.Proofs.Ytjabjfkfoenmlaa.Sc
open Go Go.RowKit Go.ChangeShapes Go.WideShapes Go.ChangeAt
set_option maxRecDepth 100000

def Ev.fit (e : Ev) : Prop := e.party.size ≤ maxLen
def Tm.fit (t : Tm) : Prop := t.iss.size ≤ maxLen ∧ t.app.size ≤ maxLen ∧ t.ben.size ≤ maxLen ∧ t.con.size ≤ maxLen
/-- An argument that is a slice of these. -/
theorem open_evs {H : Type} {enc : TypeId × Value → H} {W : World} {base : Nat} {v : Value} {d : DataW H} {p : List MemPlace} (hv : Value.okWide Try.prog W .any base 24 v)
    (h : DataW.Trod enc Try.prog W 0 (fun _ => true) true 24 v d p) : ∃ l : List Ev, Sl W 4 v (l.map Ev.row) ∧ ∀ h ∈ l, h.fit := by
  obtain ⟨a, len, cap, rfl⟩ := okWide_slice Try.underlying24 hv
  obtain ⟨fuel, hf⟩ := h
  obtain ⟨rows, hs, _, hg⟩ := open_sl (sz := 4) (Good := fun cs => ∃ d : { d : Ev // d.fit }, cs = d.1.row) Try.underlying24 (by kernel_rfl) rfl hf (fun n cs y hy => by
    obtain ⟨hl, m, hg⟩ := row_fields Try.underlying40 (by kernel_rfl) (by kernel_rfl) hy
    match cs, hl with
    | [c0, c1, c2, c3], _ =>
      obtain ⟨z0, g0⟩ := hg 0 _ rfl c0 rfl
      obtain ⟨s0, e0, _, f0⟩ := DataW.trod_int Try.underlying3 g0
      obtain rfl : c0 = .int .i64 s0 := by simpa using e0
      obtain ⟨z1, g1⟩ := hg 1 _ rfl c1 rfl
      obtain ⟨s1, e1, _, f1⟩ := DataW.trod_string Try.underlying9 g1
      obtain rfl : c1 = .string s1 := by simpa using e1
      obtain ⟨z2, g2⟩ := hg 2 _ rfl c2 rfl
      obtain ⟨s2, e2, _, f2⟩ := DataW.trod_int Try.underlying3 g2
      obtain rfl : c2 = .int .i64 s2 := by simpa using e2
      obtain ⟨z3, g3⟩ := hg 3 _ rfl c3 rfl
      obtain ⟨s3, e3, _, f3⟩ := DataW.trod_int Try.underlying2 g3
      obtain rfl : c3 = .int .i64 s3 := by simpa using e3
      exact ⟨⟨⟨s0, s1, s2, s3⟩, f1⟩, rfl⟩) (by decide)
  obtain ⟨l, rfl⟩ := choose_map (f := fun d : { d : Ev // d.fit } => d.1.row) rows hg
  refine ⟨l.map Subtype.val, by simpa [List.map_map, Function.comp_def] using hs, fun h hh => ?_⟩
  obtain ⟨d, _, rfl⟩ := List.mem_map.1 hh
  exact d.2
/-- An argument that is one of these. -/
theorem open_terms {H : Type} {enc : TypeId × Value → H} {W : World} {base : Nat} {v : Value} {d : DataW H} {p : List MemPlace} (hv : Value.okWide Try.prog W .any base 23 v)
    (h : DataW.Trod enc Try.prog W 0 (fun _ => true) true 23 v d p) : ∃ t : Tm, v = .agg t.cells ∧ t.fit := by
  obtain ⟨cs, rfl, hsz⟩ := okWide_struct Try.underlying23 hv
  obtain ⟨fuel, hf⟩ := h
  obtain ⟨hl, m, hg⟩ := row_fields Try.underlying23 (by kernel_rfl) (by kernel_rfl) hf
  obtain ⟨cs⟩ := cs
  simp only [Value.cells] at hl hg
  match cs, hl with
  | [c0, c1, c2, c3, c4, c5, c6, c7, c8], _ =>
    obtain ⟨z0, g0⟩ := hg 0 _ rfl c0 rfl
    obtain ⟨s0, e0, _, f0⟩ := DataW.trod_string Try.underlying9 g0
    obtain rfl : c0 = .string s0 := by simpa using e0
    obtain ⟨z1, g1⟩ := hg 1 _ rfl c1 rfl
    obtain ⟨s1, e1, _, f1⟩ := DataW.trod_string Try.underlying9 g1
    obtain rfl : c1 = .string s1 := by simpa using e1
    obtain ⟨z2, g2⟩ := hg 2 _ rfl c2 rfl
    obtain ⟨s2, e2, _, f2⟩ := DataW.trod_string Try.underlying9 g2
    obtain rfl : c2 = .string s2 := by simpa using e2
    obtain ⟨z3, g3⟩ := hg 3 _ rfl c3 rfl
    obtain ⟨s3, e3, _, f3⟩ := DataW.trod_string Try.underlying9 g3
    obtain rfl : c3 = .string s3 := by simpa using e3
    obtain ⟨z4, g4⟩ := hg 4 _ rfl c4 rfl
    obtain ⟨s4, e4, _, f4⟩ := DataW.trod_int Try.underlying2 g4
    obtain rfl : c4 = .int .i64 s4 := by simpa using e4
    obtain ⟨z5, g5⟩ := hg 5 _ rfl c5 rfl
    obtain ⟨s5, e5, _, f5⟩ := DataW.trod_int Try.underlying3 g5
    obtain rfl : c5 = .int .i64 s5 := by simpa using e5
    obtain ⟨z6, g6⟩ := hg 6 _ rfl c6 rfl
    obtain ⟨s6, e6, _, f6⟩ := DataW.trod_int Try.underlying3 g6
    obtain rfl : c6 = .int .i64 s6 := by simpa using e6
    obtain ⟨z7, g7⟩ := hg 7 _ rfl c7 rfl
    obtain ⟨s7, e7, _, f7⟩ := DataW.trod_int Try.underlying3 g7
    obtain rfl : c7 = .int .i64 s7 := by simpa using e7
    obtain ⟨z8, g8⟩ := hg 8 _ rfl c8 rfl
    obtain ⟨s8, e8, _⟩ := DataW.trod_bool Try.underlying4 g8
    obtain rfl : c8 = .bool s8 := by simpa using e8
    exact ⟨⟨s0, s1, s2, s3, s4, s5, s6, s7, s8⟩, rfl, ⟨f0, f1, f2, f3⟩⟩

def Tm.long (t : Tm) : Bool := decide (100 < t.iss.size) || (decide (100 < t.app.size) || (decide (100 < t.ben.size) || decide (100 < t.con.size)))
set_option maxHeartbeats 4000000 in
theorem long_any (t : Tm) (w : World) : Calls Try.prog 11 #[.agg t.cells] w (RetB w t.long) := by
  unfold Tm.cells Tm.long
  generalize t.iss = x0 at *
  generalize t.app = x1 at *
  generalize t.ben = x2 at *
  generalize t.con = x3 at *
  by_cases h0 : 100 < x0.size <;> by_cases h1 : 100 < x1.size <;> by_cases h2 : 100 < x2.size <;> by_cases h3 : 100 < x3.size <;> (
    go_enter Try.func11, Try.ntmps11
    go_wp2
    go_ret
    refine retB ?_ (one_below _ _)
    first
      | (simp [*]; done)
      | (simp; omega)
      | (simp [*]; omega))
def heavy (l : List Ev) (most : Int) : Bool := decide (most < (l.length : Int)) || l.any fun e => decide (100 < e.party.size)
set_option maxHeartbeats 1000000 in
theorem heavy_any (l : List Ev) (most : Int) (v : Value) (w : World) (hs : Sl w 4 v (l.map Ev.row)) : Calls Try.prog 12 #[v, .int .i64 most] w (RetB w (heavy l most)) := by
  have hml : l.length ≤ 9223372036854775807 := by have := hs.len_le; simpa [maxLen] using this
  obtain ⟨a, c, rfl⟩ : ∃ a c, v = .slice a l.length c := by simpa using hs.shape
  have HSL := Lib.hid hs
  clear hs
  by_cases hm : most < (l.length : Int)
  · have tm : decide (most < (l.length : Int)) = true := decide_eq_true hm
    have HM := Lib.hid hm
    clear hm
    go_enter Try.func12, Try.ntmps12
    go_wp2
    go_ret
    exact retB (by simp [heavy, HM.out]) (Below.refl _ _)
  · have tm : decide (most < (l.length : Int)) = false := decide_eq_false hm
    have HM : Hid (heavy l most = l.any fun e => decide (100 < e.party.size)) := Lib.hid (by rw [heavy, tm, Bool.false_or])
    clear hm
    go_enter Try.func12, Try.ntmps12
    go_wp2
    clear tm
    go_loop [5] (fun i => ∃ k : Nat, k ≤ l.length ∧ i = .int .i64 k ∧ heavy l most = (l.drop k).any fun e => decide (100 < e.party.size)) (fun i => l.length - (intOf i).toNat)
    case atStart => exact ⟨0, Nat.zero_le _, rfl, HM.out⟩
    case round =>
      obtain ⟨k, hk, rfl, hrel⟩ := hrel
      by_cases hlt : k < l.length
      · obtain ⟨b, off, rfl, -, hb, hc⟩ := HSL.out.at (i := k) (by simpa using hlt)
        have d1 : w.cell? ⟨b, off + k * 4 + 1, none⟩ = some (.string l[k].party) := hc k l[k].row (by simp [hlt]) 1 _ rfl
        rw [List.drop_eq_getElem_cons hlt, List.any_cons] at hrel
        have HR := Lib.hid hrel
        clear hrel hc
        generalize l[k].party = s at *
        by_cases h1 : 100 < s.size
        · have HH := Lib.hid h1
          go_wp2
          go_ret
          exact retB (by rw [HR.out]; simp [HH.out]) (Below.refl _ _)
        · have HH := Lib.hid (show ¬ 100 < s.size from h1)
          go_wp2
          go_round
          case rel => exact ⟨k + 1, by omega, by go_num, by rw [HR.out, decide_eq_false HH.out, Bool.false_or]⟩
          case measure => simp [intOf]; omega
      · have HR := Lib.hid hrel
        clear hrel
        go_wp2
        go_ret
        exact retB (by rw [HR.out, List.drop_eq_nil_of_le (by omega)]; rfl) (Below.refl _ _)
theorem heavy_no {l : List Ev} {most : Int} (h : heavy l most = false) : (l.length : Int) ≤ most ∧ ∀ e ∈ l, e.party.size ≤ 100 := by
  simp only [heavy, Bool.or_eq_false_iff, decide_eq_false_iff_not, List.any_eq_false, decide_eq_true_eq] at h
  exact ⟨by omega, fun e he => by have := h.2 e he; omega⟩

theorem lives_def (c : Cr) : c.lives = (nameOk c.s3 && (nameOk c.s1 && (nameOk c.s2 && (!decide (c.s3 = c.s1) && (!decide (c.s3 = c.s2) && (!decide (c.s1 = c.s2) && ((c.s4.toList.isEmpty || (nameOk c.s4 && (!decide (c.s4 = c.s3) && (!decide (c.s4 = c.s1) && !decide (c.s4 = c.s2))))) && c.bnd))))))) := by
  unfold Cr.lives
  rw [show decide (c.s3 = c.s1) = decide (c.s1 = c.s3) from by rw [decide_eq_decide]; exact eq_comm, show decide (c.s3 = c.s2) = decide (c.s2 = c.s3) from by rw [decide_eq_decide]; exact eq_comm, show decide (c.s1 = c.s2) = decide (c.s2 = c.s1) from by rw [decide_eq_decide]; exact eq_comm]
  cases c.bnd <;> cases nameOk c.s3 <;> cases nameOk c.s1 <;> cases nameOk c.s2 <;> simp [Bool.and_assoc]
set_option maxHeartbeats 4000000 in
theorem refMay34_any (t : Tm) (w : World) (h : t.long = false) : Calls Try.prog 13 #[.agg t.cr.cells] w (RetB w t.cr.lives) := by
  have hs : t.iss.size ≤ 100 ∧ t.app.size ≤ 100 ∧ t.ben.size ≤ 100 ∧ t.con.size ≤ 100 := by simp [Tm.long] at h; omega
  have HL := Lib.hid (lives_def t.cr)
  have HB := Lib.hid (fun W => refBounds_any t.cr W)
  have N3 := Lib.hid (fun W => refName6_any t.iss W (by omega))
  have N1 := Lib.hid (fun W => refName6_any t.app W (by omega))
  have N2 := Lib.hid (fun W => refName6_any t.ben W (by omega))
  have N4 := Lib.hid (fun W => refName6_any t.con W (by omega))
  have e3 : t.cr.s3 = t.iss := rfl
  have e1 : t.cr.s1 = t.app := rfl
  have e2 : t.cr.s2 = t.ben := rfl
  have e4 : t.cr.s4 = t.con := rfl
  rw [e1, e2, e3, e4] at HL
  simp only [← str_beq] at HL
  have HX : Hid ((w.alloc (.cells t.cr.cells 32)).heap[w.heap.size]? = some (.cells t.cr.cells 32 (0, 0))) := Lib.hid (heap_alloc_new _ _)
  have HO := Lib.hid (one_below w (.cells t.cr.cells 32))
  have d1 : (w.alloc (.cells t.cr.cells 32)).cell? ⟨w.heap.size, 1, none⟩ = some (.string t.app) := cell_blk HX.out 1
  have d2 : (w.alloc (.cells t.cr.cells 32)).cell? ⟨w.heap.size, 2, none⟩ = some (.string t.ben) := cell_blk HX.out 2
  have d3 : (w.alloc (.cells t.cr.cells 32)).cell? ⟨w.heap.size, 3, none⟩ = some (.string t.iss) := cell_blk HX.out 3
  have d4 : (w.alloc (.cells t.cr.cells 32)).cell? ⟨w.heap.size, 4, none⟩ = some (.string t.con) := cell_blk HX.out 4
  generalize t.cr.lives = res at *
  generalize t.cr.bnd = bnd at *
  generalize hcc : t.cr = c at *
  clear h hs e1 e2 e3 e4 hcc
  generalize t.iss = a at *
  generalize t.app = b at *
  generalize t.ben = d at *
  generalize t.con = f at *
  go_enter Try.func13, Try.ntmps13
  go_wp2_with fail
  go_quiet (fail)
  have HQ : Hid (Below w.heap.size w ((w.alloc (.cells c.cells 32)).drewN nq)) := Lib.hid (below_drewN HO.out nq)
  have HXQ : Hid (((w.alloc (.cells c.cells 32)).drewN nq).heap[w.heap.size]? = some (.cells c.cells 32 (0, 0))) := Lib.hid HX.out
  generalize (w.alloc (.cells c.cells 32)).drewN nq = w1 at *
  clear d1 d2 d3 d4 HX HO
  cases ht : nameOk a
  · rw [ht] at N3 HL
    clear ht
    go_wp2_with (first
      | ((with_reducible refine (N3.out _).mono ?_); rintro e w2 ⟨rfl, hb2⟩; have HQ := Lib.hid (below_then HQ.out hb2); have HXQ := Lib.hid (blk hb2 (lt_blk HXQ.out) HXQ.out); clear hb2)
      | ((with_reducible refine (N1.out _).mono ?_); rintro e w2 ⟨rfl, hb2⟩; have HQ := Lib.hid (below_then HQ.out hb2); have HXQ := Lib.hid (blk hb2 (lt_blk HXQ.out) HXQ.out); clear hb2)
      | ((with_reducible refine (N2.out _).mono ?_); rintro e w2 ⟨rfl, hb2⟩; have HQ := Lib.hid (below_then HQ.out hb2); have HXQ := Lib.hid (blk hb2 (lt_blk HXQ.out) HXQ.out); clear hb2)
      | ((with_reducible refine (N4.out _).mono ?_); rintro e w2 ⟨rfl, hb2⟩; have HQ := Lib.hid (below_then HQ.out hb2); have HXQ := Lib.hid (blk hb2 (lt_blk HXQ.out) HXQ.out); clear hb2)
      | (refine load_cr (.tmp 1) w.heap.size c _ rfl rfl HXQ.out ?_)
      | ((with_reducible refine (HB.out _).mono ?_); rintro e w2 ⟨rfl, hb2⟩; have HQ := Lib.hid (below_then HQ.out hb2); clear hb2)
      | fail)
    go_ret
    exact retB (by rw [HL.out]; simp) HQ.out
  · rw [ht] at N3 HL
    clear ht
    cases ht : nameOk b
    · rw [ht] at N1 HL
      clear ht
      go_wp2_with (first
        | ((with_reducible refine (N3.out _).mono ?_); rintro e w2 ⟨rfl, hb2⟩; have HQ := Lib.hid (below_then HQ.out hb2); have HXQ := Lib.hid (blk hb2 (lt_blk HXQ.out) HXQ.out); clear hb2)
        | ((with_reducible refine (N1.out _).mono ?_); rintro e w2 ⟨rfl, hb2⟩; have HQ := Lib.hid (below_then HQ.out hb2); have HXQ := Lib.hid (blk hb2 (lt_blk HXQ.out) HXQ.out); clear hb2)
        | ((with_reducible refine (N2.out _).mono ?_); rintro e w2 ⟨rfl, hb2⟩; have HQ := Lib.hid (below_then HQ.out hb2); have HXQ := Lib.hid (blk hb2 (lt_blk HXQ.out) HXQ.out); clear hb2)
        | ((with_reducible refine (N4.out _).mono ?_); rintro e w2 ⟨rfl, hb2⟩; have HQ := Lib.hid (below_then HQ.out hb2); have HXQ := Lib.hid (blk hb2 (lt_blk HXQ.out) HXQ.out); clear hb2)
        | (refine load_cr (.tmp 1) w.heap.size c _ rfl rfl HXQ.out ?_)
        | ((with_reducible refine (HB.out _).mono ?_); rintro e w2 ⟨rfl, hb2⟩; have HQ := Lib.hid (below_then HQ.out hb2); clear hb2)
        | fail)
      go_ret
      exact retB (by rw [HL.out]; simp) HQ.out
    · rw [ht] at N1 HL
      clear ht
      cases ht : nameOk d
      · rw [ht] at N2 HL
        clear ht
        go_wp2_with (first
          | ((with_reducible refine (N3.out _).mono ?_); rintro e w2 ⟨rfl, hb2⟩; have HQ := Lib.hid (below_then HQ.out hb2); have HXQ := Lib.hid (blk hb2 (lt_blk HXQ.out) HXQ.out); clear hb2)
          | ((with_reducible refine (N1.out _).mono ?_); rintro e w2 ⟨rfl, hb2⟩; have HQ := Lib.hid (below_then HQ.out hb2); have HXQ := Lib.hid (blk hb2 (lt_blk HXQ.out) HXQ.out); clear hb2)
          | ((with_reducible refine (N2.out _).mono ?_); rintro e w2 ⟨rfl, hb2⟩; have HQ := Lib.hid (below_then HQ.out hb2); have HXQ := Lib.hid (blk hb2 (lt_blk HXQ.out) HXQ.out); clear hb2)
          | ((with_reducible refine (N4.out _).mono ?_); rintro e w2 ⟨rfl, hb2⟩; have HQ := Lib.hid (below_then HQ.out hb2); have HXQ := Lib.hid (blk hb2 (lt_blk HXQ.out) HXQ.out); clear hb2)
          | (refine load_cr (.tmp 1) w.heap.size c _ rfl rfl HXQ.out ?_)
          | ((with_reducible refine (HB.out _).mono ?_); rintro e w2 ⟨rfl, hb2⟩; have HQ := Lib.hid (below_then HQ.out hb2); clear hb2)
          | fail)
        go_ret
        exact retB (by rw [HL.out]; simp) HQ.out
      · rw [ht] at N2 HL
        clear ht
        cases ht : (a.toList == b.toList)
        · rw [ht] at HL
          have k3 := ht
          clear ht
          cases ht : (a.toList == d.toList)
          · rw [ht] at HL
            have k2 := ht
            clear ht
            cases ht : (b.toList == d.toList)
            · rw [ht] at HL
              have k1 := ht
              clear ht
              cases he : f.toList.isEmpty
              · rw [he] at HL
                cases ht : nameOk f
                · rw [ht] at N4 HL
                  clear ht
                  go_wp2_with (first
                    | ((with_reducible refine (N3.out _).mono ?_); rintro e w2 ⟨rfl, hb2⟩; have HQ := Lib.hid (below_then HQ.out hb2); have HXQ := Lib.hid (blk hb2 (lt_blk HXQ.out) HXQ.out); clear hb2)
                    | ((with_reducible refine (N1.out _).mono ?_); rintro e w2 ⟨rfl, hb2⟩; have HQ := Lib.hid (below_then HQ.out hb2); have HXQ := Lib.hid (blk hb2 (lt_blk HXQ.out) HXQ.out); clear hb2)
                    | ((with_reducible refine (N2.out _).mono ?_); rintro e w2 ⟨rfl, hb2⟩; have HQ := Lib.hid (below_then HQ.out hb2); have HXQ := Lib.hid (blk hb2 (lt_blk HXQ.out) HXQ.out); clear hb2)
                    | ((with_reducible refine (N4.out _).mono ?_); rintro e w2 ⟨rfl, hb2⟩; have HQ := Lib.hid (below_then HQ.out hb2); have HXQ := Lib.hid (blk hb2 (lt_blk HXQ.out) HXQ.out); clear hb2)
                    | (refine load_cr (.tmp 1) w.heap.size c _ rfl rfl HXQ.out ?_)
                    | ((with_reducible refine (HB.out _).mono ?_); rintro e w2 ⟨rfl, hb2⟩; have HQ := Lib.hid (below_then HQ.out hb2); clear hb2)
                    | fail)
                  go_ret
                  exact retB (by rw [HL.out]; simp) HQ.out
                · rw [ht] at N4 HL
                  clear ht
                  cases ht : (f.toList == a.toList)
                  · rw [ht] at HL
                    have k4 := ht
                    clear ht
                    cases ht : (f.toList == b.toList)
                    · rw [ht] at HL
                      have k3 := ht
                      clear ht
                      cases ht : (f.toList == d.toList)
                      · rw [ht] at HL
                        have k2 := ht
                        clear ht
                        cases ht : bnd
                        · rw [ht] at HB HL
                          clear ht
                          go_wp2_with (first
                            | ((with_reducible refine (N3.out _).mono ?_); rintro e w2 ⟨rfl, hb2⟩; have HQ := Lib.hid (below_then HQ.out hb2); have HXQ := Lib.hid (blk hb2 (lt_blk HXQ.out) HXQ.out); clear hb2)
                            | ((with_reducible refine (N1.out _).mono ?_); rintro e w2 ⟨rfl, hb2⟩; have HQ := Lib.hid (below_then HQ.out hb2); have HXQ := Lib.hid (blk hb2 (lt_blk HXQ.out) HXQ.out); clear hb2)
                            | ((with_reducible refine (N2.out _).mono ?_); rintro e w2 ⟨rfl, hb2⟩; have HQ := Lib.hid (below_then HQ.out hb2); have HXQ := Lib.hid (blk hb2 (lt_blk HXQ.out) HXQ.out); clear hb2)
                            | ((with_reducible refine (N4.out _).mono ?_); rintro e w2 ⟨rfl, hb2⟩; have HQ := Lib.hid (below_then HQ.out hb2); have HXQ := Lib.hid (blk hb2 (lt_blk HXQ.out) HXQ.out); clear hb2)
                            | (refine load_cr (.tmp 1) w.heap.size c _ rfl rfl HXQ.out ?_)
                            | ((with_reducible refine (HB.out _).mono ?_); rintro e w2 ⟨rfl, hb2⟩; have HQ := Lib.hid (below_then HQ.out hb2); clear hb2)
                            | fail)
                          go_ret
                          exact retB (by rw [HL.out]; simp) HQ.out
                        · rw [ht] at HB HL
                          clear ht
                          go_wp2_with (first
                            | ((with_reducible refine (N3.out _).mono ?_); rintro e w2 ⟨rfl, hb2⟩; have HQ := Lib.hid (below_then HQ.out hb2); have HXQ := Lib.hid (blk hb2 (lt_blk HXQ.out) HXQ.out); clear hb2)
                            | ((with_reducible refine (N1.out _).mono ?_); rintro e w2 ⟨rfl, hb2⟩; have HQ := Lib.hid (below_then HQ.out hb2); have HXQ := Lib.hid (blk hb2 (lt_blk HXQ.out) HXQ.out); clear hb2)
                            | ((with_reducible refine (N2.out _).mono ?_); rintro e w2 ⟨rfl, hb2⟩; have HQ := Lib.hid (below_then HQ.out hb2); have HXQ := Lib.hid (blk hb2 (lt_blk HXQ.out) HXQ.out); clear hb2)
                            | ((with_reducible refine (N4.out _).mono ?_); rintro e w2 ⟨rfl, hb2⟩; have HQ := Lib.hid (below_then HQ.out hb2); have HXQ := Lib.hid (blk hb2 (lt_blk HXQ.out) HXQ.out); clear hb2)
                            | (refine load_cr (.tmp 1) w.heap.size c _ rfl rfl HXQ.out ?_)
                            | ((with_reducible refine (HB.out _).mono ?_); rintro e w2 ⟨rfl, hb2⟩; have HQ := Lib.hid (below_then HQ.out hb2); clear hb2)
                            | fail)
                          go_ret
                          exact retB (by rw [HL.out]; simp) HQ.out
                      · rw [ht] at HL
                        go_wp2_with (first
                          | ((with_reducible refine (N3.out _).mono ?_); rintro e w2 ⟨rfl, hb2⟩; have HQ := Lib.hid (below_then HQ.out hb2); have HXQ := Lib.hid (blk hb2 (lt_blk HXQ.out) HXQ.out); clear hb2)
                          | ((with_reducible refine (N1.out _).mono ?_); rintro e w2 ⟨rfl, hb2⟩; have HQ := Lib.hid (below_then HQ.out hb2); have HXQ := Lib.hid (blk hb2 (lt_blk HXQ.out) HXQ.out); clear hb2)
                          | ((with_reducible refine (N2.out _).mono ?_); rintro e w2 ⟨rfl, hb2⟩; have HQ := Lib.hid (below_then HQ.out hb2); have HXQ := Lib.hid (blk hb2 (lt_blk HXQ.out) HXQ.out); clear hb2)
                          | ((with_reducible refine (N4.out _).mono ?_); rintro e w2 ⟨rfl, hb2⟩; have HQ := Lib.hid (below_then HQ.out hb2); have HXQ := Lib.hid (blk hb2 (lt_blk HXQ.out) HXQ.out); clear hb2)
                          | (refine load_cr (.tmp 1) w.heap.size c _ rfl rfl HXQ.out ?_)
                          | ((with_reducible refine (HB.out _).mono ?_); rintro e w2 ⟨rfl, hb2⟩; have HQ := Lib.hid (below_then HQ.out hb2); clear hb2)
                          | fail)
                        go_ret
                        exact retB (by rw [HL.out]; simp) HQ.out
                    · rw [ht] at HL
                      go_wp2_with (first
                        | ((with_reducible refine (N3.out _).mono ?_); rintro e w2 ⟨rfl, hb2⟩; have HQ := Lib.hid (below_then HQ.out hb2); have HXQ := Lib.hid (blk hb2 (lt_blk HXQ.out) HXQ.out); clear hb2)
                        | ((with_reducible refine (N1.out _).mono ?_); rintro e w2 ⟨rfl, hb2⟩; have HQ := Lib.hid (below_then HQ.out hb2); have HXQ := Lib.hid (blk hb2 (lt_blk HXQ.out) HXQ.out); clear hb2)
                        | ((with_reducible refine (N2.out _).mono ?_); rintro e w2 ⟨rfl, hb2⟩; have HQ := Lib.hid (below_then HQ.out hb2); have HXQ := Lib.hid (blk hb2 (lt_blk HXQ.out) HXQ.out); clear hb2)
                        | ((with_reducible refine (N4.out _).mono ?_); rintro e w2 ⟨rfl, hb2⟩; have HQ := Lib.hid (below_then HQ.out hb2); have HXQ := Lib.hid (blk hb2 (lt_blk HXQ.out) HXQ.out); clear hb2)
                        | (refine load_cr (.tmp 1) w.heap.size c _ rfl rfl HXQ.out ?_)
                        | ((with_reducible refine (HB.out _).mono ?_); rintro e w2 ⟨rfl, hb2⟩; have HQ := Lib.hid (below_then HQ.out hb2); clear hb2)
                        | fail)
                      go_ret
                      exact retB (by rw [HL.out]; simp) HQ.out
                  · rw [ht] at HL
                    go_wp2_with (first
                      | ((with_reducible refine (N3.out _).mono ?_); rintro e w2 ⟨rfl, hb2⟩; have HQ := Lib.hid (below_then HQ.out hb2); have HXQ := Lib.hid (blk hb2 (lt_blk HXQ.out) HXQ.out); clear hb2)
                      | ((with_reducible refine (N1.out _).mono ?_); rintro e w2 ⟨rfl, hb2⟩; have HQ := Lib.hid (below_then HQ.out hb2); have HXQ := Lib.hid (blk hb2 (lt_blk HXQ.out) HXQ.out); clear hb2)
                      | ((with_reducible refine (N2.out _).mono ?_); rintro e w2 ⟨rfl, hb2⟩; have HQ := Lib.hid (below_then HQ.out hb2); have HXQ := Lib.hid (blk hb2 (lt_blk HXQ.out) HXQ.out); clear hb2)
                      | ((with_reducible refine (N4.out _).mono ?_); rintro e w2 ⟨rfl, hb2⟩; have HQ := Lib.hid (below_then HQ.out hb2); have HXQ := Lib.hid (blk hb2 (lt_blk HXQ.out) HXQ.out); clear hb2)
                      | (refine load_cr (.tmp 1) w.heap.size c _ rfl rfl HXQ.out ?_)
                      | ((with_reducible refine (HB.out _).mono ?_); rintro e w2 ⟨rfl, hb2⟩; have HQ := Lib.hid (below_then HQ.out hb2); clear hb2)
                      | fail)
                    go_ret
                    exact retB (by rw [HL.out]; simp) HQ.out
              · rw [he] at HL
                cases ht : bnd
                · rw [ht] at HB HL
                  clear ht
                  go_wp2_with (first
                    | ((with_reducible refine (N3.out _).mono ?_); rintro e w2 ⟨rfl, hb2⟩; have HQ := Lib.hid (below_then HQ.out hb2); have HXQ := Lib.hid (blk hb2 (lt_blk HXQ.out) HXQ.out); clear hb2)
                    | ((with_reducible refine (N1.out _).mono ?_); rintro e w2 ⟨rfl, hb2⟩; have HQ := Lib.hid (below_then HQ.out hb2); have HXQ := Lib.hid (blk hb2 (lt_blk HXQ.out) HXQ.out); clear hb2)
                    | ((with_reducible refine (N2.out _).mono ?_); rintro e w2 ⟨rfl, hb2⟩; have HQ := Lib.hid (below_then HQ.out hb2); have HXQ := Lib.hid (blk hb2 (lt_blk HXQ.out) HXQ.out); clear hb2)
                    | ((with_reducible refine (N4.out _).mono ?_); rintro e w2 ⟨rfl, hb2⟩; have HQ := Lib.hid (below_then HQ.out hb2); have HXQ := Lib.hid (blk hb2 (lt_blk HXQ.out) HXQ.out); clear hb2)
                    | (refine load_cr (.tmp 1) w.heap.size c _ rfl rfl HXQ.out ?_)
                    | ((with_reducible refine (HB.out _).mono ?_); rintro e w2 ⟨rfl, hb2⟩; have HQ := Lib.hid (below_then HQ.out hb2); clear hb2)
                    | fail)
                  go_ret
                  exact retB (by rw [HL.out]; simp) HQ.out
                · rw [ht] at HB HL
                  clear ht
                  go_wp2_with (first
                    | ((with_reducible refine (N3.out _).mono ?_); rintro e w2 ⟨rfl, hb2⟩; have HQ := Lib.hid (below_then HQ.out hb2); have HXQ := Lib.hid (blk hb2 (lt_blk HXQ.out) HXQ.out); clear hb2)
                    | ((with_reducible refine (N1.out _).mono ?_); rintro e w2 ⟨rfl, hb2⟩; have HQ := Lib.hid (below_then HQ.out hb2); have HXQ := Lib.hid (blk hb2 (lt_blk HXQ.out) HXQ.out); clear hb2)
                    | ((with_reducible refine (N2.out _).mono ?_); rintro e w2 ⟨rfl, hb2⟩; have HQ := Lib.hid (below_then HQ.out hb2); have HXQ := Lib.hid (blk hb2 (lt_blk HXQ.out) HXQ.out); clear hb2)
                    | ((with_reducible refine (N4.out _).mono ?_); rintro e w2 ⟨rfl, hb2⟩; have HQ := Lib.hid (below_then HQ.out hb2); have HXQ := Lib.hid (blk hb2 (lt_blk HXQ.out) HXQ.out); clear hb2)
                    | (refine load_cr (.tmp 1) w.heap.size c _ rfl rfl HXQ.out ?_)
                    | ((with_reducible refine (HB.out _).mono ?_); rintro e w2 ⟨rfl, hb2⟩; have HQ := Lib.hid (below_then HQ.out hb2); clear hb2)
                    | fail)
                  go_ret
                  exact retB (by rw [HL.out]; simp) HQ.out
            · rw [ht] at HL
              go_wp2_with (first
                | ((with_reducible refine (N3.out _).mono ?_); rintro e w2 ⟨rfl, hb2⟩; have HQ := Lib.hid (below_then HQ.out hb2); have HXQ := Lib.hid (blk hb2 (lt_blk HXQ.out) HXQ.out); clear hb2)
                | ((with_reducible refine (N1.out _).mono ?_); rintro e w2 ⟨rfl, hb2⟩; have HQ := Lib.hid (below_then HQ.out hb2); have HXQ := Lib.hid (blk hb2 (lt_blk HXQ.out) HXQ.out); clear hb2)
                | ((with_reducible refine (N2.out _).mono ?_); rintro e w2 ⟨rfl, hb2⟩; have HQ := Lib.hid (below_then HQ.out hb2); have HXQ := Lib.hid (blk hb2 (lt_blk HXQ.out) HXQ.out); clear hb2)
                | ((with_reducible refine (N4.out _).mono ?_); rintro e w2 ⟨rfl, hb2⟩; have HQ := Lib.hid (below_then HQ.out hb2); have HXQ := Lib.hid (blk hb2 (lt_blk HXQ.out) HXQ.out); clear hb2)
                | (refine load_cr (.tmp 1) w.heap.size c _ rfl rfl HXQ.out ?_)
                | ((with_reducible refine (HB.out _).mono ?_); rintro e w2 ⟨rfl, hb2⟩; have HQ := Lib.hid (below_then HQ.out hb2); clear hb2)
                | fail)
              go_ret
              exact retB (by rw [HL.out]; simp) HQ.out
          · rw [ht] at HL
            go_wp2_with (first
              | ((with_reducible refine (N3.out _).mono ?_); rintro e w2 ⟨rfl, hb2⟩; have HQ := Lib.hid (below_then HQ.out hb2); have HXQ := Lib.hid (blk hb2 (lt_blk HXQ.out) HXQ.out); clear hb2)
              | ((with_reducible refine (N1.out _).mono ?_); rintro e w2 ⟨rfl, hb2⟩; have HQ := Lib.hid (below_then HQ.out hb2); have HXQ := Lib.hid (blk hb2 (lt_blk HXQ.out) HXQ.out); clear hb2)
              | ((with_reducible refine (N2.out _).mono ?_); rintro e w2 ⟨rfl, hb2⟩; have HQ := Lib.hid (below_then HQ.out hb2); have HXQ := Lib.hid (blk hb2 (lt_blk HXQ.out) HXQ.out); clear hb2)
              | ((with_reducible refine (N4.out _).mono ?_); rintro e w2 ⟨rfl, hb2⟩; have HQ := Lib.hid (below_then HQ.out hb2); have HXQ := Lib.hid (blk hb2 (lt_blk HXQ.out) HXQ.out); clear hb2)
              | (refine load_cr (.tmp 1) w.heap.size c _ rfl rfl HXQ.out ?_)
              | ((with_reducible refine (HB.out _).mono ?_); rintro e w2 ⟨rfl, hb2⟩; have HQ := Lib.hid (below_then HQ.out hb2); clear hb2)
              | fail)
            go_ret
            exact retB (by rw [HL.out]; simp) HQ.out
        · rw [ht] at HL
          go_wp2_with (first
            | ((with_reducible refine (N3.out _).mono ?_); rintro e w2 ⟨rfl, hb2⟩; have HQ := Lib.hid (below_then HQ.out hb2); have HXQ := Lib.hid (blk hb2 (lt_blk HXQ.out) HXQ.out); clear hb2)
            | ((with_reducible refine (N1.out _).mono ?_); rintro e w2 ⟨rfl, hb2⟩; have HQ := Lib.hid (below_then HQ.out hb2); have HXQ := Lib.hid (blk hb2 (lt_blk HXQ.out) HXQ.out); clear hb2)
            | ((with_reducible refine (N2.out _).mono ?_); rintro e w2 ⟨rfl, hb2⟩; have HQ := Lib.hid (below_then HQ.out hb2); have HXQ := Lib.hid (blk hb2 (lt_blk HXQ.out) HXQ.out); clear hb2)
            | ((with_reducible refine (N4.out _).mono ?_); rintro e w2 ⟨rfl, hb2⟩; have HQ := Lib.hid (below_then HQ.out hb2); have HXQ := Lib.hid (blk hb2 (lt_blk HXQ.out) HXQ.out); clear hb2)
            | (refine load_cr (.tmp 1) w.heap.size c _ rfl rfl HXQ.out ?_)
            | ((with_reducible refine (HB.out _).mono ?_); rintro e w2 ⟨rfl, hb2⟩; have HQ := Lib.hid (below_then HQ.out hb2); clear hb2)
            | fail)
          go_ret
          exact retB (by rw [HL.out]; simp) HQ.out
theorem tm_load {w : World} {b : Nat} {t : Tm} (h : w.heap[b]? = some (.cells t.cells 23 (0, 0))) : w.cell? ⟨b, 0, none⟩ = some (.string t.iss) ∧ w.cell? ⟨b, 1, none⟩ = some (.string t.app) ∧ w.cell? ⟨b, 2, none⟩ = some (.string t.ben) ∧ w.cell? ⟨b, 3, none⟩ = some (.string t.con) :=
  ⟨cell_blk h 0, cell_blk h 1, cell_blk h 2, cell_blk h 3⟩
theorem tm_run {w : World} {b : Nat} {t : Tm} (h : w.heap[b]? = some (.cells t.cells 23 (0, 0))) : (loadVar 23 ⟨b, 0, none⟩).run Try.prog w = .ok (.agg t.cells) w :=
  run_loadVar_row (P := Try.prog) w b _ 23 t.cells (0, 0) _ h Try.underlying23 rfl (by kernel_rfl)
section
variable {ops : Array Oper} {rest : List Oper} {a : Act} {w : World} {Q : Exit → Act → World → Prop} {dst : Option Tmp} {ty : TypeId} {pos : String} {after : Array Edge}
/-- Terms loaded out of their box. -/
theorem load_tm {gd : Option (Nat × Bool)} (x : Operand) (g : Nat) (t : Tm) (hw : Region.wanted ⟨dst, .load 23 x, ty, pos, after, gd⟩ (yielded ops a.tmps) = true) (hx : a.eval x = .pointer (some ⟨g, 0, none⟩)) (hg : w.heap[g]? = some (.cells t.cells 23 (0, 0)))
    (h : wpList Try.prog ops Q rest (a.put dst (.agg t.cells)) w) : wpList Try.prog ops Q (⟨dst, .load 23 x, ty, pos, after, gd⟩ :: rest) a w := by
  refine wpList_step fun K hK => ?_
  rw [if_pos hw]
  exact wp_load_row _ x rfl g hx _ t.cells (0, 0) _ hg Try.underlying23 rfl (by kernel_rfl) (hK _ _ h)
end

end Go.Proofs.Ytjabjfkfoenmlaa.Sc
