/- A bond: its boxes, and Open, Used, Enter. -/
import Derived.Test.YtehlhfcaajhhaaaDuty45
import Derived.Test.YtehlhfcaajhhaaaKeep
namespace Go.Proofs.Ytehlhfcaajhhaaa.Sc
open Go Go.RowKit Go.ChangeShapes Go.WideShapes Go.ChangeAt
set_option maxRecDepth 100000

/-- What stands in a bond. -/
structure Bx where
  name : ByteArray
  duty : Int
  day : Int
  st : Int
def Bx.val (b : Bx) : Value := .agg #[.int .i64 b.duty, .int .i64 b.day, .int .i64 b.st]
def bEnts (l : List Bx) : Mp.Ents := l.map fun b => (b.name, b.val)
def usedOf : List Bx → Int
  | [] => 0
  | b :: l => (if b.st = 0 then b.duty else 0) + usedOf l
theorem usedOf_append (l m : List Bx) : usedOf (l ++ m) = usedOf l + usedOf m := by
  induction l with
  | nil => simp [usedOf]
  | cons b l ih => simp only [List.cons_append, usedOf, ih]; omega
def hasB (l : List Bx) (n : ByteArray) : Bool := l.any fun b => decide (b.name = n)
def outB (d y : Int) : Prop := d < 0 ∨ 1099511627776 < d ∨ y < 0 ∨ 1048576 < y
instance (d y : Int) : Decidable (outB d y) := by unfold outB; infer_instance
def enterC (l : List Bx) (L : Int) (n : ByteArray) (d y : Int) : Int :=
  if nameOk n = false then 1 else if outB d y then 3 else if hasB l n = true then 5 else if 4096 ≤ l.length then 7 else if L < usedOf l + d then 10 else 0
def enterL (l : List Bx) (L : Int) (n : ByteArray) (d y : Int) : List Bx := if enterC l L n d y = 0 then l ++ [⟨n, d, y, if d = 0 then 1 else 0⟩] else l
structure Bx.good (b : Bx) : Prop where
  d : 0 ≤ b.duty ∧ b.duty ≤ 1099511627776
  y : 0 ≤ b.day ∧ b.day ≤ 1048576
/-- A bond in memory. -/
structure Bst (w : World) (bp bm : Nat) (L : Int) (l : List Bx) : Prop where
  box : w.heap[bp]? = some (.cells #[.int .i64 L, .int .i64 (usedOf l), .map (some bm)] 95 (0, 0))
  map : ∃ es, Mp.MapAt w bm es ∧ es.Perm (bEnts l)
  ne : ¬ bm = bp
  good : ∀ b ∈ l, b.good
  lim : 0 ≤ L ∧ L ≤ 1099511627776
  us : 0 ≤ usedOf l ∧ usedOf l ≤ L
theorem Bst.keep {F : Nat → Prop} {w w' : World} {bp bm : Nat} {L : Int} {l : List Bx} (h : Bst w bp bm L l) (k : Keep F w w') (h1 : ¬ F bp) (h2 : ¬ F bm) : Bst w' bp bm L l := by
  obtain ⟨es, hm, hp⟩ := h.map
  exact ⟨k.blk h.box h1, ⟨es, MapAt.keep hm k h2, hp⟩, h.ne, h.good, h.lim, h.us⟩
theorem Bst.below {w w' : World} {bp bm : Nat} {L : Int} {l : List Bx} (h : Bst w bp bm L l) (k : Below w.heap.size w w') : Bst w' bp bm L l := h.keep (F := fun _ => False) (Keep.of_below k) id id
def BondP (w : World) (bp bm : Nat) (L : Int) (l : List Bx) (v : Value) (e : Ending) (w' : World) : Prop := e = .returned v ∧ Bst w' bp bm L l ∧ Keep (fun k => k = bp ∨ k = bm) w w'
theorem zeroEnt (w : World) : (zeroValue 91).run Try.prog w = .ok (.agg #[.int .i64 0, .int .i64 0, .int .i64 0]) w := by kernel_rfl
theorem bget_none {l : List Bx} {es : Mp.Ents} {n : ByteArray} (hp : es.Perm (bEnts l)) (h : hasB l n = false) : Mp.mget es n = none := by
  rw [Mp.mget_none]
  intro hm
  have : n ∈ (bEnts l).map Prod.fst := (hp.map Prod.fst).mem_iff.1 hm
  simp only [bEnts, List.map_map, List.mem_map, Function.comp] at this
  obtain ⟨b, hb, rfl⟩ := this
  have : hasB l b.name = true := List.any_eq_true.2 ⟨b, hb, by simp⟩
  rw [h] at this
  cases this
theorem bget_some {l : List Bx} {es : Mp.Ents} {n : ByteArray} (hp : es.Perm (bEnts l)) (hn : (Mp.mkeys es).Nodup) (h : hasB l n = true) : ∃ b ∈ l, b.name = n ∧ Mp.mget es n = some b.val := by
  obtain ⟨b, hb, hbn⟩ := List.any_eq_true.1 h
  have hbn : b.name = n := by simpa using hbn
  refine ⟨b, hb, hbn, Mp.mget_of_mem hn (hp.mem_iff.2 ?_)⟩
  subst hbn
  exact List.mem_map.2 ⟨b, hb, rfl⟩
theorem entBad {w w' : World} {bp bm : Nat} {L : Int} {l : List Bx} {n : ByteArray} {d y c : Int} (h : Bst w bp bm L l) (hc : enterC l L n d y = c) (h0 : c ≠ 0) (hb : Below w.heap.size w w') :
    BondP w bp bm L (enterL l L n d y) (.int .i64 (enterC l L n d y)) (.returned (.int .i64 c)) w' :=
  ⟨by rw [hc], by rw [enterL, if_neg (by rw [hc]; exact h0)]; exact h.below hb, Keep.of_below hb⟩
theorem blk_set1 {w : World} {b : Nat} {x y z : Value} {t : TypeId} {fr : Nat × Nat} (h : w.heap[b]? = some (.cells #[x, y, z] t fr)) (u : Value) : (w.setCell ⟨b, 1, none⟩ u).heap[b]? = some (.cells #[x, u, z] t fr) := by
  simp [World.setCell, Array.getElem?_modify, h]
theorem entOk {w w4 w5 : World} {bp bm : Nat} {L U : Int} {l : List Bx} {es : Mp.Ents} {n : ByteArray} {d y st : Int} (h : Bst w bp bm L l) (hc : enterC l L n d y = 0) (hp : es.Perm (bEnts l)) (hh : hasB l n = false) (hd : 0 ≤ d ∧ d ≤ 1099511627776) (hy : 0 ≤ y ∧ y ≤ 1048576)
    (hb : Below w.heap.size w w4) (hg : w4.drew.grownBy w5 (some bm)) (hm : Mp.MapAt w5 bm (Mp.mput es n (.agg #[.int .i64 d, .int .i64 y, .int .i64 st]))) (hst : st = if d = 0 then 1 else 0) (hU : U = usedOf l) (hf : ¬ L < U + d) :
    BondP w bp bm L (enterL l L n d y) (.int .i64 (enterC l L n d y)) (.returned (.int .i64 0)) (w5.setCell ⟨bp, 1, none⟩ (.int .i64 (U + d))) := by
  have hx5 : w5.heap[bp]? = some (.cells #[.int .i64 L, .int .i64 (usedOf l), .map (some bm)] 95 (0, 0)) := (hg.block bp (show bp < w4.heap.size from lt_blk (blk hb (lt_blk h.box) h.box)) (fun e => h.ne (Option.some.inj e).symm)).trans (blk hb.drew (lt_blk h.box) h.box)
  have hu : usedOf (l ++ [⟨n, d, y, if d = 0 then 1 else 0⟩]) = U + d := by
    rw [usedOf_append, ← hU]
    by_cases h0 : d = 0
    · simp [usedOf, h0]
    · simp [usedOf, h0]
  have hk : n ∉ Mp.mkeys es := Mp.mget_none.1 (bget_none hp hh)
  refine ⟨by rw [hc], ?_, ?_⟩
  · rw [enterL, if_pos hc]
    have hlt := lt_blk hx5
    refine ⟨?_, ⟨es ++ [(n, .agg #[.int .i64 d, .int .i64 y, .int .i64 st])], ?_, ?_⟩, h.ne, ?_, h.lim, ?_⟩
    · rw [hu]; exact blk_set1 hx5 _
    · rw [← Mp.mput_new _ hk]
      exact hm.same (Below.heap_setCell _ _ _ _ (fun e => h.ne e))
    · rw [bEnts, List.map_append]
      refine hp.append ?_
      rw [hst]
      exact List.Perm.refl _
    · intro b hb'
      rcases List.mem_append.1 hb' with hb' | hb'
      · exact h.good b hb'
      · obtain rfl : b = ⟨n, d, y, if d = 0 then 1 else 0⟩ := by simpa using hb'
        exact ⟨hd, hy⟩
    · rw [hu]; have := h.us; omega
  · have k1 : Keep (fun k => k = bp ∨ k = bm) w w5 := (Keep.of_below hb).trans (Keep.of_grown hg).undrew (fun i _ e => .inr (Option.some.inj e).symm)
    exact k1.trans (Keep.of_grown (grown_set w5 bp 1 (.int .i64 (U + d)))) (fun i _ e => .inl (Option.some.inj e).symm)
set_option maxHeartbeats 8000000 in
theorem enter_any (l : List Bx) (L : Int) (bp bm : Nat) (n : ByteArray) (d y : Int) (w : World) (h : Bst w bp bm L l) (hl : l.length ≤ 4000) :
    Calls Try.prog 25 #[.pointer (some ⟨bp, 0, none⟩), .string n, .int .i64 d, .int .i64 y] w (BondP w bp bm L (enterL l L n d y) (.int .i64 (enterC l L n d y))) := by
  have HB := Lib.hid h
  obtain ⟨es, hm, hp⟩ := h.map
  have HP := Lib.hid hp
  have HM : Hid (∀ W, Below w.heap.size w W → Mp.MapAt W bm es) := Lib.hid (fun W hW => hm.same (hW.block _ hm.lt))
  have HND := Lib.hid hm.nodup
  have HC : Hid (∀ W, Below w.heap.size w W → W.cell? ⟨bp, 0, none⟩ = some (.int .i64 L) ∧ W.cell? ⟨bp, 1, none⟩ = some (.int .i64 (usedOf l)) ∧ W.cell? ⟨bp, 2, none⟩ = some (.map (some bm))) := Lib.hid (fun W hW => by
    have hq := blk hW (lt_blk h.box) h.box
    exact ⟨cell_blk hq 0, cell_blk hq 1, cell_blk hq 2⟩)
  have HLEN : Hid (es.length = l.length) := Lib.hid (by rw [hp.length_eq, bEnts, List.length_map])
  have HN := Lib.hid (fun W => dutyName_any n W)
  have hlim := h.lim
  have hus := h.us
  have nilm : ∀ W : World, (binOp .eql 93 (.map (some bm)) (.map none)).run Try.prog W = .ok (.bool false) W := fun W => Mp.run_eql_nilmap Try.underlying93 W (some bm)
  obtain ⟨U, hU⟩ : ∃ U, U = usedOf l := ⟨_, rfl⟩
  clear h hm hp
  cases hn : nameOk n
  · have HQ : Hid (enterC l L n d y = 1) := Lib.hid (by rw [enterC, if_pos hn])
    rw [hn] at HN
    clear hn
    go_enter Try.func25, Try.ntmps25
    go_wp2_with (first
      | ((with_reducible refine (HN.out _).mono ?_); rintro e w1 ⟨rfl, hb1⟩; have HB1 := Lib.hid hb1; obtain ⟨q0, q1, q2⟩ := HC.out _ HB1.out; have hl1 := lt_blk (blk HB1.out (lt_blk HB.out.box) HB.out.box); clear hb1)
      | fail)
    go_ret
    exact entBad HB.out (HQ.out) (by decide) (HB1.out)
  · have HN0 := Lib.hid hn
    rw [hn] at HN
    by_cases hr : outB d y
    · have HQ : Hid (enterC l L n d y = 3) := Lib.hid (by rw [enterC, if_neg (by rw [hn]; decide), if_pos hr])
      unfold outB at hr
      clear hn
      by_cases r1 : d < 0
      · have t1 : decide (d < 0) = true := decide_eq_true r1
        clear hr r1
        go_enter Try.func25, Try.ntmps25
        go_wp2_with (first
          | ((with_reducible refine (HN.out _).mono ?_); rintro e w1 ⟨rfl, hb1⟩; have HB1 := Lib.hid hb1; obtain ⟨q0, q1, q2⟩ := HC.out _ HB1.out; have hl1 := lt_blk (blk HB1.out (lt_blk HB.out.box) HB.out.box); clear hb1)
          | fail)
        go_ret
        exact entBad HB.out (HQ.out) (by decide) (HB1.out)
      · have t1 : decide (d < 0) = false := decide_eq_false r1
        by_cases r2 : 1099511627776 < d
        · have t2 : decide (1099511627776 < d) = true := decide_eq_true r2
          clear hr r1 r2
          go_enter Try.func25, Try.ntmps25
          go_wp2_with (first
            | ((with_reducible refine (HN.out _).mono ?_); rintro e w1 ⟨rfl, hb1⟩; have HB1 := Lib.hid hb1; obtain ⟨q0, q1, q2⟩ := HC.out _ HB1.out; have hl1 := lt_blk (blk HB1.out (lt_blk HB.out.box) HB.out.box); clear hb1)
            | fail)
          go_ret
          exact entBad HB.out (HQ.out) (by decide) (HB1.out)
        · have t2 : decide (1099511627776 < d) = false := decide_eq_false r2
          by_cases r3 : y < 0
          · have t3 : decide (y < 0) = true := decide_eq_true r3
            clear hr r1 r2 r3
            go_enter Try.func25, Try.ntmps25
            go_wp2_with (first
              | ((with_reducible refine (HN.out _).mono ?_); rintro e w1 ⟨rfl, hb1⟩; have HB1 := Lib.hid hb1; obtain ⟨q0, q1, q2⟩ := HC.out _ HB1.out; have hl1 := lt_blk (blk HB1.out (lt_blk HB.out.box) HB.out.box); clear hb1)
              | fail)
            go_ret
            exact entBad HB.out (HQ.out) (by decide) (HB1.out)
          · have t3 : decide (y < 0) = false := decide_eq_false r3
            have t4 : decide (1048576 < y) = true := decide_eq_true (by omega)
            clear hr r1 r2 r3
            go_enter Try.func25, Try.ntmps25
            go_wp2_with (first
              | ((with_reducible refine (HN.out _).mono ?_); rintro e w1 ⟨rfl, hb1⟩; have HB1 := Lib.hid hb1; obtain ⟨q0, q1, q2⟩ := HC.out _ HB1.out; have hl1 := lt_blk (blk HB1.out (lt_blk HB.out.box) HB.out.box); clear hb1)
              | fail)
            go_ret
            exact entBad HB.out (HQ.out) (by decide) (HB1.out)
    · have hr0 := hr
      unfold outB at hr
      have t1 : decide (d < 0) = false := decide_eq_false (by omega)
      have t2 : decide (1099511627776 < d) = false := decide_eq_false (by omega)
      have t3 : decide (y < 0) = false := decide_eq_false (by omega)
      have t4 : decide (1048576 < y) = false := decide_eq_false (by omega)
      have hd : 0 ≤ d ∧ d ≤ 1099511627776 := by omega
      have hy : 0 ≤ y ∧ y ≤ 1048576 := by omega
      cases hh : hasB l n
      · have HG := Lib.hid (bget_none HP.out hh)
        have t5 : decide ((4096 : Int) ≤ (es.length : Int)) = false := decide_eq_false (by have := HLEN.out; omega)
        have HQ0 : Hid (enterC l L n d y = if L < usedOf l + d then 10 else 0) := Lib.hid (by rw [enterC, if_neg (by rw [hn]; decide), if_neg hr0, if_neg (by rw [hh]; decide), if_neg (by omega)])
        have HHB := Lib.hid hh
        clear hr hr0 hn hh
        by_cases hf : L < usedOf l + d
        · have HQ : Hid (enterC l L n d y = 10) := Lib.hid (by rw [HQ0.out, if_pos hf])
          rw [← hU] at HC hus hf
          have t6 : decide (L < U + d) = true := decide_eq_true hf
          clear hf hU
          go_enter Try.func25, Try.ntmps25
          go_wp2_with (first
            | ((with_reducible refine (HN.out _).mono ?_); rintro e w1 ⟨rfl, hb1⟩; have HB1 := Lib.hid hb1; obtain ⟨q0, q1, q2⟩ := HC.out _ HB1.out; have hl1 := lt_blk (blk HB1.out (lt_blk HB.out.box) HB.out.box); clear hb1)
            | ((with_reducible refine Mp.wpl_miss (l := es) (key := n) ?_ ?_ ?_ Try.underlying93 Try.underlying9 (zeroEnt _) (HM.out _ HB1.out) HG.out ?_); rfl; rfl; rfl)
            | ((with_reducible refine Mp.wpl_len (l := es) ?_ ?_ Try.underlying93 (HM.out _ (HB1.out.alloc HB1.out.size _)) ?_); rfl; rfl)
            | fail)
          obtain ⟨w2, hw2⟩ : ∃ x, x = w1.alloc (.cells #[.int .i64 0, .int .i64 0, .int .i64 0] 91) := ⟨_, rfl⟩
          rw [← hw2]
          have HB2 : Hid (Below w.heap.size w w2) := Lib.hid (hw2 ▸ HB1.out.alloc HB1.out.size _)
          clear hw2 q0 q1 q2 hl1
          obtain ⟨q0, q1, q2⟩ := HC.out _ HB2.out
          go_quiet (fail)
          obtain ⟨w3, hw3⟩ : ∃ x, x = w2.drewN nq := ⟨_, rfl⟩
          rw [← hw3]
          have HB3 : Hid (Below w.heap.size w w3) := Lib.hid (hw3 ▸ below_drewN HB2.out nq)
          clear hw3 q0 q1 q2
          obtain ⟨q0, q1, q2⟩ := HC.out _ HB3.out
          go_wp2_with fail
          go_ret
          exact entBad HB.out HQ.out (by decide) HB3.out
        · have HQ : Hid (enterC l L n d y = 0) := Lib.hid (by rw [HQ0.out, if_neg hf])
          have HUU := Lib.hid hU
          have HD := Lib.hid hd
          have HY := Lib.hid hy
          rw [← hU] at HC hus hf
          have HNF := Lib.hid hf
          have t6 : decide (L < U + d) = false := decide_eq_false hf
          clear hf hU
          by_cases h0 : d = 0
          · have t7 : (d == 0) = true := by simp [h0]
            have HST : Hid ((1 : Int) = if d = 0 then 1 else 0) := Lib.hid (by rw [if_pos h0])
            clear h0
            go_enter Try.func25, Try.ntmps25
            go_wp2_with (first
              | ((with_reducible refine (HN.out _).mono ?_); rintro e w1 ⟨rfl, hb1⟩; have HB1 := Lib.hid hb1; obtain ⟨q0, q1, q2⟩ := HC.out _ HB1.out; have hl1 := lt_blk (blk HB1.out (lt_blk HB.out.box) HB.out.box); clear hb1)
              | ((with_reducible refine Mp.wpl_miss (l := es) (key := n) ?_ ?_ ?_ Try.underlying93 Try.underlying9 (zeroEnt _) (HM.out _ HB1.out) HG.out ?_); rfl; rfl; rfl)
              | ((with_reducible refine Mp.wpl_len (l := es) ?_ ?_ Try.underlying93 (HM.out _ (HB1.out.alloc HB1.out.size _)) ?_); rfl; rfl)
              | fail)
            obtain ⟨w2, hw2⟩ : ∃ x, x = w1.alloc (.cells #[.int .i64 0, .int .i64 0, .int .i64 0] 91) := ⟨_, rfl⟩
            rw [← hw2]
            have HB2 : Hid (Below w.heap.size w w2) := Lib.hid (hw2 ▸ HB1.out.alloc HB1.out.size _)
            clear hw2 q0 q1 q2 hl1
            obtain ⟨q0, q1, q2⟩ := HC.out _ HB2.out
            go_quiet (fail)
            obtain ⟨w3, hw3⟩ : ∃ x, x = w2.drewN nq := ⟨_, rfl⟩
            rw [← hw3]
            have HB3 : Hid (Below w.heap.size w w3) := Lib.hid (hw3 ▸ below_drewN HB2.out nq)
            clear hw3 q0 q1 q2
            obtain ⟨q0, q1, q2⟩ := HC.out _ HB3.out
            go_wp2_with fail
            obtain ⟨w4, hw4⟩ : ∃ x, x = w3.alloc (.cells #[.int .i64 d, .int .i64 y, .int .i64 1] 91) := ⟨_, rfl⟩
            obtain ⟨be, hbe⟩ : ∃ b, b = w3.heap.size := ⟨_, rfl⟩
            have HE : Hid (w4.heap[be]? = some (.cells #[.int .i64 d, .int .i64 y, .int .i64 1] 91 (0, 0))) := Lib.hid (by rw [hw4, hbe]; exact heap_alloc_new _ _)
            have HB4 : Hid (Below w.heap.size w w4) := Lib.hid (hw4 ▸ HB3.out.alloc HB3.out.size _)
            rw [← hw4, ← hbe]
            clear hw4 hbe q0 q1 q2
            obtain ⟨q0, q1, q2⟩ := HC.out _ HB4.out
            have e0 := cell_blk HE.out 0
            have e1 := cell_blk HE.out 1
            have e2 := cell_blk HE.out 2
            go_still_tail 6, (by kernel_rfl)
            change wpList _ _ _ _ _ w4.drew
            go_wp2_with (first
              | ((with_reducible refine Mp.wpl_update (b := bm) (l := es) (key := n) (v := .agg #[.int .i64 d, .int .i64 y, .int .i64 1]) ?_ ?_ ?_ ?_ Try.underlying93 Try.underlying9 ((HM.out _ HB4.out).same rfl) ?_); rfl; rfl; rfl; rfl; intro w5 hm5 hg5 hz5; have HM5 := Lib.hid hm5; have HG5 := Lib.hid hg5; have HX5 := Lib.hid ((hg5.block bp (show bp < w4.heap.size from lt_blk (blk HB4.out (lt_blk HB.out.box) HB.out.box)) (fun e => HB.out.ne (Option.some.inj e).symm)).trans (blk HB4.out.drew (lt_blk HB.out.box) HB.out.box)); have x0 := cell_blk HX5.out 0; have x1 := cell_blk HX5.out 1; have x2 := cell_blk HX5.out 2; have f1 := free_blk HX5.out 1; rw [← HUU.out] at x1; clear hm5 hg5 hz5)
              | fail)
            go_ret
            exact entOk HB.out HQ.out HP.out HHB.out HD.out HY.out HB4.out HG5.out HM5.out HST.out HUU.out (by have := HNF.out; omega)
          · have t7 : (d == 0) = false := by simp [h0]
            have HST : Hid ((0 : Int) = if d = 0 then 1 else 0) := Lib.hid (by rw [if_neg h0])
            clear h0
            go_enter Try.func25, Try.ntmps25
            go_wp2_with (first
              | ((with_reducible refine (HN.out _).mono ?_); rintro e w1 ⟨rfl, hb1⟩; have HB1 := Lib.hid hb1; obtain ⟨q0, q1, q2⟩ := HC.out _ HB1.out; have hl1 := lt_blk (blk HB1.out (lt_blk HB.out.box) HB.out.box); clear hb1)
              | ((with_reducible refine Mp.wpl_miss (l := es) (key := n) ?_ ?_ ?_ Try.underlying93 Try.underlying9 (zeroEnt _) (HM.out _ HB1.out) HG.out ?_); rfl; rfl; rfl)
              | ((with_reducible refine Mp.wpl_len (l := es) ?_ ?_ Try.underlying93 (HM.out _ (HB1.out.alloc HB1.out.size _)) ?_); rfl; rfl)
              | fail)
            obtain ⟨w2, hw2⟩ : ∃ x, x = w1.alloc (.cells #[.int .i64 0, .int .i64 0, .int .i64 0] 91) := ⟨_, rfl⟩
            rw [← hw2]
            have HB2 : Hid (Below w.heap.size w w2) := Lib.hid (hw2 ▸ HB1.out.alloc HB1.out.size _)
            clear hw2 q0 q1 q2 hl1
            obtain ⟨q0, q1, q2⟩ := HC.out _ HB2.out
            go_quiet (fail)
            obtain ⟨w3, hw3⟩ : ∃ x, x = w2.drewN nq := ⟨_, rfl⟩
            rw [← hw3]
            have HB3 : Hid (Below w.heap.size w w3) := Lib.hid (hw3 ▸ below_drewN HB2.out nq)
            clear hw3 q0 q1 q2
            obtain ⟨q0, q1, q2⟩ := HC.out _ HB3.out
            go_wp2_with fail
            obtain ⟨w4, hw4⟩ : ∃ x, x = w3.alloc (.cells #[.int .i64 d, .int .i64 y, .int .i64 0] 91) := ⟨_, rfl⟩
            obtain ⟨be, hbe⟩ : ∃ b, b = w3.heap.size := ⟨_, rfl⟩
            have HE : Hid (w4.heap[be]? = some (.cells #[.int .i64 d, .int .i64 y, .int .i64 0] 91 (0, 0))) := Lib.hid (by rw [hw4, hbe]; exact heap_alloc_new _ _)
            have HB4 : Hid (Below w.heap.size w w4) := Lib.hid (hw4 ▸ HB3.out.alloc HB3.out.size _)
            rw [← hw4, ← hbe]
            clear hw4 hbe q0 q1 q2
            obtain ⟨q0, q1, q2⟩ := HC.out _ HB4.out
            have e0 := cell_blk HE.out 0
            have e1 := cell_blk HE.out 1
            have e2 := cell_blk HE.out 2
            go_still_tail 6, (by kernel_rfl)
            change wpList _ _ _ _ _ w4.drew
            go_wp2_with (first
              | ((with_reducible refine Mp.wpl_update (b := bm) (l := es) (key := n) (v := .agg #[.int .i64 d, .int .i64 y, .int .i64 0]) ?_ ?_ ?_ ?_ Try.underlying93 Try.underlying9 ((HM.out _ HB4.out).same rfl) ?_); rfl; rfl; rfl; rfl; intro w5 hm5 hg5 hz5; have HM5 := Lib.hid hm5; have HG5 := Lib.hid hg5; have HX5 := Lib.hid ((hg5.block bp (show bp < w4.heap.size from lt_blk (blk HB4.out (lt_blk HB.out.box) HB.out.box)) (fun e => HB.out.ne (Option.some.inj e).symm)).trans (blk HB4.out.drew (lt_blk HB.out.box) HB.out.box)); have x0 := cell_blk HX5.out 0; have x1 := cell_blk HX5.out 1; have x2 := cell_blk HX5.out 2; have f1 := free_blk HX5.out 1; rw [← HUU.out] at x1; clear hm5 hg5 hz5)
              | fail)
            go_ret
            exact entOk HB.out HQ.out HP.out HHB.out HD.out HY.out HB4.out HG5.out HM5.out HST.out HUU.out (by have := HNF.out; omega)
      · obtain ⟨b, -, -, hg⟩ := bget_some HP.out HND.out hh
        have HG := Lib.hid hg
        rw [Bx.val] at HG
        have HQ : Hid (enterC l L n d y = 5) := Lib.hid (by rw [enterC, if_neg (by rw [hn]; decide), if_neg hr0, if_pos hh])
        clear hr hr0 hn hg
        go_enter Try.func25, Try.ntmps25
        go_wp2_with (first
          | ((with_reducible refine (HN.out _).mono ?_); rintro e w1 ⟨rfl, hb1⟩; have HB1 := Lib.hid hb1; obtain ⟨q0, q1, q2⟩ := HC.out _ HB1.out; have hl1 := lt_blk (blk HB1.out (lt_blk HB.out.box) HB.out.box); clear hb1)
          | ((with_reducible refine Mp.wpl_got (l := es) (key := n) ?_ ?_ ?_ Try.underlying93 Try.underlying9 (zeroEnt _) (HM.out _ HB1.out) HG.out ?_); rfl; rfl; rfl)
          | fail)
        go_ret
        exact entBad HB.out (HQ.out) (by decide) (HB1.out.alloc HB1.out.size _)
theorem used_any (l : List Bx) (L : Int) (bp bm : Nat) (w : World) (h : Bst w bp bm L l) : Calls Try.prog 19 #[.pointer (some ⟨bp, 0, none⟩)] w (Ret w (.int .i64 (usedOf l))) := by
  have q1 := cell_blk h.box 1
  go_enter Try.func19, Try.ntmps19
  go_wp2
  go_ret
  exact ⟨rfl, Below.refl _ _⟩
def limOf (a : Int) : Int := if a < 0 then 0 else if 1099511627776 < a then 1099511627776 else a
theorem lim_rng (a : Int) : 0 ≤ limOf a ∧ limOf a ≤ 1099511627776 := by unfold limOf; split <;> (try split) <;> omega
/-- A new bond: its blocks are new. -/
def OpenP (w : World) (a : Int) (e : Ending) (w' : World) : Prop := ∃ bp bm, e = .returned (.pointer (some ⟨bp, 0, none⟩)) ∧ w.heap.size ≤ bp ∧ w.heap.size ≤ bm ∧ Bst w' bp bm (limOf a) [] ∧ Below w.heap.size w w'
theorem open_any (a : Int) (w : World) : Calls Try.prog 29 #[.int .i64 a] w (OpenP w a) := by
  obtain ⟨L, hL⟩ : ∃ L, L = limOf a := ⟨_, rfl⟩
  have HL := Lib.hid hL
  have e1 : min (max a 0) 1099511627776 = L := by rw [hL]; unfold limOf; split <;> (try split) <;> omega
  have tm : ∀ W : World, (Instr.makeMap 93 none).run Try.prog W = .ok (.map (some W.heap.size)) (W.alloc (.map #[] 0)) := fun W => by kernel_rfl
  clear hL
  go_enter Try.func29, Try.ntmps29
  go_wp2
  obtain ⟨w1, hw1⟩ : ∃ x, x = (w.alloc (.map #[] 0)).alloc (.cells #[.int .i64 L, .int .i64 0, .map (some w.heap.size)] 95) := ⟨_, rfl⟩
  rw [← hw1]
  have HW := Lib.hid hw1
  have HB1 : Hid (Below w.heap.size w w1) := Lib.hid (hw1 ▸ (one_below _ _).alloc (by simp) _)
  clear hw1 e1 tm
  go_ret
  refine ⟨w.heap.size + 1, w.heap.size, rfl, by omega, by omega, ⟨?_, ⟨[], (Mp.MapAt.made w).same ?_, List.Perm.refl _⟩, by omega, by simp, lim_rng a, ?_⟩, HB1.out⟩
  · rw [← HL.out, HW.out]
    have := heap_alloc_new (w.alloc (.map #[] 0)) (.cells #[.int .i64 L, .int .i64 0, .map (some w.heap.size)] 95)
    simpa [usedOf] using this
  · rw [HW.out]; exact Below.heap_alloc _ _ _ (by simp)
  · have := lim_rng a
    simp [usedOf]; omega
end Go.Proofs.Ytehlhfcaajhhaaa.Sc
