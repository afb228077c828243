/- Which claimants may be. -/
import Derived.Test.YtbigoifpfkdkjaaGreatDisA4
namespace Go.Proofs.YtbigoifpfkdkjaaGreat.Sc
open Go Go.RowKit Go.ChangeShapes Go.WideShapes Go.ChangeAt
set_option maxRecDepth 100000

/-- A claimant that may be. -/
structure ClmOk (x : Clm) : Prop where
  nm : nameOk x.nm = true
  tg : nameOk x.tg = true
  r0 : 0 ≤ x.rt
  r4 : x.rt ≤ 4
  d0 : 0 ≤ x.dy
  d1 : x.dy ≤ 1048576
  a0 : 0 ≤ x.am
  a1 : x.am ≤ 1099511627776
set_option maxHeartbeats 2000000 in
theorem clm_may (x : Clm) (h : ClmOk x) (w : World) : Calls Tryz.prog 37 #[.agg x.cells] w (RetB w true) := by
  obtain ⟨f, t, r, d, a⟩ := x
  obtain ⟨h1, h2, h3, h4, h5, h6, h7, h8⟩ := h
  simp only at h1 h2 h3 h4 h5 h6 h7 h8
  have HF := Lib.hid (fun W => markName_any f W)
  have HT := Lib.hid (fun W => markName_any t W)
  rw [h1] at HF
  rw [h2] at HT
  have t3 : decide (0 ≤ r) = true := decide_eq_true h3
  have t4 : decide (r ≤ 4) = true := decide_eq_true h4
  have t5 : decide (0 ≤ d) = true := decide_eq_true h5
  have t6 : decide (d ≤ 1048576) = true := decide_eq_true h6
  have t7 : decide (0 ≤ a) = true := decide_eq_true h7
  have t8 : decide (a ≤ 1099511627776) = true := decide_eq_true h8
  have HX := Lib.hid (heap_alloc_new w (.cells #[.string f, .string t, .int .i64 r, .int .i64 d, .int .i64 a] 33))
  have HB := Lib.hid (one_below w (.cells #[.string f, .string t, .int .i64 r, .int .i64 d, .int .i64 a] 33))
  simp only [Clm.cells]
  clear h1 h2 h3 h4 h5 h6 h7 h8
  go_enter Tryz.func37, Tryz.ntmps37
  go_wp2_with (first
    | ((with_reducible refine (HF.out _).mono ?_); rintro e w1 ⟨rfl, hb1⟩; have HB1 := Lib.hid (HB.out.trans (hb1.mono HB.out.size)); have HX1 := Lib.hid (blk hb1 (lt_blk HX.out) HX.out); clear hb1; have c1 := cell_blk HX1.out 1)
    | ((with_reducible refine (HT.out _).mono ?_); rintro e w2 ⟨rfl, hb2⟩; have HB2 := Lib.hid (HB1.out.trans (hb2.mono HB1.out.size)); have HX2 := Lib.hid (blk hb2 (lt_blk HX1.out) HX1.out); clear hb2; have e2 := cell_blk HX2.out 2; have e3 := cell_blk HX2.out 3; have e4 := cell_blk HX2.out 4)
    | fail)
  go_ret
  exact retB rfl HB2.out
theorem clm_not (x : Clm) (h : ClmOk x) (w : World) : Calls Tryz.prog 36 #[.agg x.cells] w (RetB w false) := by
  have HM := Lib.hid (fun W => clm_may x h W)
  obtain ⟨f, t, r, d, a⟩ := x
  simp only [Clm.cells] at HM ⊢
  have HB := Lib.hid (one_below w (.cells #[.string f, .string t, .int .i64 r, .int .i64 d, .int .i64 a] 33))
  clear h
  go_enter Tryz.func36, Tryz.ntmps36
  go_wp2_with (first
    | ((with_reducible refine (HM.out _).mono ?_); rintro e w1 ⟨rfl, hb1⟩; have HB1 := Lib.hid (HB.out.trans (hb1.mono HB.out.size)); clear hb1)
    | fail)
  go_ret
  exact retB rfl HB1.out
theorem clms_right (l : List Clm) (v : Value) (w : World) (hs : Sl w 5 v (l.map Clm.row)) (h : ∀ x ∈ l, ClmOk x) (hl : l.length ≤ 4096) : Calls Tryz.prog 21 #[v] w (Ret w (.int .i64 0)) := by
  have eg : ∀ args w, (callFunc 36 args).run Tryz.prog w = .ok (.enter 36 args) w := enters_of Tryz.func36 (by kernel_rfl) rfl
  have HC := Lib.hid (containsT_any (fun _ => false) 36 #[] l v w hs eg (fun W x hx _ => clm_not x (h x hx) W))
  have hf : l.any (fun _ => false) = false := by simp
  rw [hf] at HC
  obtain ⟨a, c, rfl⟩ : ∃ a c, v = .slice a l.length c := by simpa using hs.shape
  have t1 : decide ((4096 : Int) < (l.length : Int)) = false := decide_eq_false (by omega)
  have t2 : decide (4096 < l.length) = false := decide_eq_false (by omega)
  clear hs h hl eg hf
  go_enter Tryz.func21, Tryz.ntmps21
  go_wp2_with (first
    | ((with_reducible refine HC.out.mono ?_); rintro e w1 ⟨rfl, hb1⟩; have HB1 := Lib.hid hb1; clear hb1)
    | fail)
  go_ret
  exact ⟨rfl, HB1.out⟩
theorem clmCells_one (l : List Clm) : ∀ u ∈ clmCells l, u.oneCell' = true := by
  intro u hu
  obtain ⟨x, -, hx⟩ := List.mem_flatMap.1 hu
  exact clm_one x u hx
set_option maxHeartbeats 1000000 in
theorem cloneClm_any (l : List Clm) (v : Value) (w : World) (hs : Sl w 5 v (l.map Clm.row)) (hlen : l.length ≤ 1000000) : Calls Tryz.prog 26 #[v] w (RetRow w 33 5 l.length (clmCells l)) := by
  obtain ⟨i0, hi, hz, hsz, hby⟩ := info_parts infoClm
  have HI := Lib.hid (And.intro hi (And.intro hz (And.intro hsz hby)))
  clear hi hz hsz hby
  have hsrc := (hs.below (one_below w (.cells #[] 33)) (Nat.le_refl _)).src (by intro r hr; obtain ⟨d, _, rfl⟩ := List.mem_map.1 hr; rfl) (by decide)
  rw [List.length_map, show (l.map Clm.row).flatten = clmCells l from by simp [clmCells, List.flatMap]] at hsrc
  have HSRC := Lib.hid hsrc
  obtain ⟨a, c, rfl⟩ : ∃ a c, v = .slice a l.length c := by simpa using hs.shape
  have HL : Hid (0 + l.length ≤ maxLen ∧ (0 + l.length) * 56 ≤ 140737488355328) := Lib.hid (by simp only [maxLen]; omega)
  cases a with
  | none =>
    have h0 : l = [] ∧ c = 0 := by
      rcases hs with ⟨h, a, c', hv, hn⟩ | ⟨b, off, cap, hv, _⟩
      · simp only [Value.slice.injEq] at hv
        exact ⟨by simpa using h, by rw [hv.2.2]; exact hn hv.1.symm⟩
      · cases hv
    obtain ⟨rfl, rfl⟩ := h0
    clear hs hsrc HSRC HL
    have hq := fun w : World => Lib.run_eql_slice_nil (P := Tryz.prog) w
    go_enter Tryz.func26, Tryz.ntmps26
    go_wp2
    go_ret
    exact ⟨_, rfl, World.ownsRow_nil _ _ _ _, Below.refl _ _⟩
  | some ad =>
    clear hs hsrc hlen
    generalize l.length = n at *
    have hq : ∀ w : World, (binOp .eql 31 (.slice (some ad) n c) (.slice none 0 0)).run Tryz.prog w = .ok (.bool false) w := fun _ => rfl
    go_enter Tryz.func26, Tryz.ntmps26
    go_wp2_with (first
      | ((refine Any.wpl_append (size := 5) (bytes := 56) (n := 0) (m := n) (base := w.heap.size) (vx := .slice (some ⟨w.heap.size, 0, none⟩) 0 0) (vy := .slice (some ad) n c) ?_ ?_ ?_ Tryz.underlying31 HI.out.1 HI.out.2.1 HI.out.2.2.1 HI.out.2.2.2 ?_ (by decide) (own_empty (Nat.le_refl _)) HSRC.out (clmCells_one _) HL.out.1 HL.out.2 (by simp) ?_); rfl; rfl; rfl; rfl; intro v1 w1 hown1 hgrow1 hwho1)
      | fail)
    go_ret
    refine ⟨v1, rfl, by simpa using hown1, (one_below w (.cells #[] 33)).grown hgrow1 (by simp) (fun k hk => by have : w.heap.size = k := Option.some.inj hk; omega)⟩
end Go.Proofs.YtbigoifpfkdkjaaGreat.Sc
