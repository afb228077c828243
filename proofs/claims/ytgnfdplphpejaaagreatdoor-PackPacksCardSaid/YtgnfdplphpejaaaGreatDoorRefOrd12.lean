/- The order of packing: by the reference. -/
import Derived.Test.YtgnfdplphpejaaaGreatDoorRefGo12
namespace Go.Proofs.YtgnfdplphpejaaaGreatDoor.Sc
open Go Go.RowKit Go.ChangeShapes Go.WideShapes Go.ChangeAt
set_option maxRecDepth 100000

set_option maxHeartbeats 4000000 in
theorem with_any (l : List Lt) (g : ByteArray) (n : Int) (v : Value) (w : World) (hs : Sl w 2 v (l.map Lt.row)) (hl : l.length ≤ 4000) :
    Calls Tryz.prog 37 #[v, .string g, .int .i64 n] w (RetRow w 38 2 (l ++ [(⟨g, n⟩ : Lt)]).length (ltCells (l ++ [(⟨g, n⟩ : Lt)]))) := by
  obtain ⟨a, c, rfl⟩ : ∃ a c, v = .slice a l.length c := by simpa using hs.shape
  obtain ⟨i0, hi, hz, hsz, hby⟩ := info_parts infoLt
  have HI := Lib.hid (And.intro hi (And.intro hz (And.intro hsz hby)))
  have HB0 : Hid (Below w.heap.size w (w.alloc (.cells #[] 38))) := Lib.hid (one_below w _)
  have HSRC : Hid (Src (w.alloc (.cells #[] 38)) 2 (.slice a l.length c) l.length (ltCells l)) := Lib.hid (src_lots (hs.below HB0.out (Nat.le_refl _)))
  have HO0 : Hid ((w.alloc (.cells #[] 38)).ownsRow w.heap.size 38 2 (.slice (some ⟨w.heap.size, 0, none⟩) 0 0) 0 []) := Lib.hid (own_empty (Nat.le_refl _))
  have HL0 : Hid (0 + l.length ≤ maxLen ∧ (0 + l.length) * 24 ≤ 140737488355328) := Lib.hid (by simp only [maxLen]; omega)
  have HL1 : Hid (l.length + 1 ≤ maxLen ∧ (l.length + 1) * 24 ≤ 140737488355328) := Lib.hid (by simp only [maxLen]; omega)
  have HE : Hid (ltCells (l ++ [(⟨g, n⟩ : Lt)]) = ltCells l ++ [.string g, .int .i64 n]) := Lib.hid (by rw [ltCells_append]; rfl)
  clear hs hl hi hz hsz hby
  go_enter Tryz.func37, Tryz.ntmps37
  go_wp2_with (first
    | ((with_reducible refine Any.wpl_cat ?_ ?_ ?_ Tryz.underlying23 HI.out.1 HI.out.2.1 HI.out.2.2.1 HI.out.2.2.2 ?_ (by decide) HO0.out HSRC.out (ltCells_one _) HL0.out.1 HL0.out.2 HB0.out.size ?_); rfl; rfl; rfl; rfl; intro v2 w2 hown2 hgrow2 hwho2; rw [List.nil_append, Nat.zero_add] at hown2; have HOW2 := Lib.hid hown2; have HB2 := Lib.hid (HB0.out.grown hgrow2 HB0.out.size (fun k hk => (HO0.out.lt k hk).1)); have HL := Lib.hid (And.intro HL1.out.1 (And.intro HL1.out.2 HB2.out.size)); clear hown2 hgrow2 hwho2)
    | (((with_reducible refine Any.wpl_push ?_ ?_ ?_ Tryz.underlying23 HI.out.1 HI.out.2.1 HI.out.2.2.1 HI.out.2.2.2 ?_ (by decide) ?_ ((lt_one g n)) (HOW2.out) HL.out.1 HL.out.2.1 HL.out.2.2 ?_); rfl; rfl; rfl; rfl; rfl; intro v3 w3 hown3 hgrow3 hwho3); have HO3 := Lib.hid hown3; have HB3 := Lib.hid (HB2.out.grown hgrow3 HB2.out.size (fun k hk => (HOW2.out.lt k hk).1)); clear hown3 hgrow3 hwho3)
    | fail)
  go_ret
  exact ⟨_, rfl, by rw [HE.out]; exact HO3.out, HB3.out⟩
theorem fit_with {l : List Lt} {g : ByteArray} {n : Int} (h : ∀ x ∈ l, x.fit) (hg : (⟨g, 0⟩ : Lt).fit) : ∀ x ∈ l ++ [(⟨g, n⟩ : Lt)], x.fit := fun x hx => by
  rcases List.mem_append.1 hx with h1 | h1
  · exact h x h1
  · rw [List.mem_singleton.1 h1]; exact ⟨hg.good⟩
theorem cnt_with {l : List Lt} {g : ByteArray} {n : Int} (h : ∀ x ∈ l, x.cnt ≤ 1099511627776) (hn : n ≤ 1099511627776) : ∀ x ∈ l ++ [(⟨g, n⟩ : Lt)], x.cnt ≤ 1099511627776 := fun x hx => by
  rcases List.mem_append.1 hx with h1 | h1
  · exact h x h1
  · rw [List.mem_singleton.1 h1]; exact hn
set_option maxHeartbeats 4000000 in
/-- Most: the greatest number that may be. -/
theorem most_any (t : List Gd) (k : Int) (l : List Lt) (g : ByteArray) (c : Nat) (vt v : Value) (w : World) (hst : Sl w 4 vt (t.map Gd.row)) (hs : Sl w 2 v (l.map Lt.row)) (hf : ∀ x ∈ l, x.fit) (hg : (⟨g, 0⟩ : Lt).fit) (hl : l.length ≤ 40) (hc : ∀ x ∈ l, x.cnt ≤ 1099511627776) (hcc : c ≤ 1099511627776)
    (hok : ∀ g ∈ t, gdOk g = true) : Calls Tryz.prog 36 #[vt, .int .i64 k, v, .string g, .int .i64 c] w (Ret w (.int .i64 (fillN t k l g c))) := by
  obtain ⟨may, hmay⟩ : ∃ may, may = mayN t k l g := ⟨_, rfl⟩
  have HMO : Hid (∀ i j, may j = true → 1 ≤ i → i ≤ j → may i = true) := Lib.hid (fun i j h1 h2 h3 => by rw [hmay] at h1 ⊢; exact mayN_less hok h1 h2 h3)
  have HFQ : Hid (fillN t k l g c = mostP may c) := Lib.hid (by rw [hmay, fillN, Int.toNat_natCast])
  have HW0 := Lib.hid (fun (n : Nat) W (hW : Below w.heap.size w W) => with_any l g n v W (hs.below hW (Nat.le_refl _)) (by omega))
  have HG0 := Lib.hid (fun (n : Nat) (hn : n ≤ c) (v2 : Value) W (hW : Below w.heap.size w W) (h2 : Sl W 2 v2 ((l ++ [(⟨g, (n : Int)⟩ : Lt)]).map Lt.row)) => (show Calls _ _ _ _ (RetB W (may n)) from by rw [hmay]; exact refGo_any t k (l ++ [⟨g, (n : Int)⟩]) vt v2 W (hst.below hW (Nat.le_refl _)) h2 (fit_with hf hg) (by simp; omega) (cnt_with hc (by omega)) hok))
  clear hst hs hf hg hl hc hok hmay
  go_enter Tryz.func36, Tryz.ntmps36
  go_wp2_with fail
  go_loopw [11, 12, 13] (fun lo hi _ wr => ∃ a b : Nat, a ≤ b ∧ b ≤ c ∧ lo = .int .i64 a ∧ hi = .int .i64 b ∧ (a = 0 ∨ may a = true) ∧ (∀ k, b < k → k ≤ c → may k = false) ∧ Below w.heap.size w wr) (fun lo hi _ _ => ((intOf hi) - (intOf lo)).toNat)
  case atStart => exact ⟨0, c, Nat.zero_le _, Nat.le_refl _, rfl, rfl, .inl rfl, fun k h1 h2 => by omega, Below.refl _ _⟩
  case round =>
    obtain ⟨a, b, hab, hbc, rfl, rfl, h1, h2, hbel⟩ := hrel
    have HBEL := Lib.hid hbel
    have H1 := Lib.hid h1
    have H2 := Lib.hid h2
    clear hbel h1 h2
    by_cases hlt : a < b
    · obtain ⟨n, hn⟩ : ∃ n : Nat, n = (a + b + 1) / 2 := ⟨_, rfl⟩
      have e0 : Int.tdiv ((a : Int) + (b : Int) + 1) 2 = (n : Int) := by rw [Int.tdiv_eq_ediv_of_nonneg (by omega)]; omega
      have e1 : wrap64 ((n : Nat) : Int) = (n : Int) := IntWalk.wrap64_in _ (by omega)
      have e2 : wrap64 ((n : Nat) - 1 : Int) = (n : Int) - 1 := IntWalk.wrap64_in _ (by omega)
      have t1 : decide ((a : Int) < (b : Int)) = true := decide_eq_true (by omega)
      have HN : Hid (a < n ∧ n ≤ b) := Lib.hid (by omega)
      have HWI := Lib.hid (HW0.out n)
      have HGO := Lib.hid (HG0.out n (by omega))
      have HUP : Hid (may n = false → ∀ k, n - 1 < k → k ≤ c → may k = false) := Lib.hid (fun hm k hk1 hk2 => by
        cases hk : may k with
        | false => rfl
        | true => rw [HMO.out n k hk (by omega) (by omega)] at hm; cases hm)
      clear hn
      generalize hmn : may n = r at *
      cases r
      · go_wp2_with (first | ((with_reducible refine (HWI.out _ HBEL.out).mono ?_); rintro e w2 ⟨v2, rfl, ho2, hb2⟩; have HS2 := Lib.hid (own_lots ho2 rfl); have HB2 := Lib.hid (HBEL.out.trans (hb2.mono HBEL.out.size)); clear ho2 hb2) | ((with_reducible refine (HGO.out _ _ HB2.out HS2.out).mono ?_); rintro e w3 ⟨rfl, hb3⟩; have HB3 := Lib.hid (HB2.out.trans (hb3.mono HB2.out.size)); clear hb3) | fail)
        go_roundw
        case rel =>
          have h3 := HN.out
          exact ⟨a, n - 1, by omega, by omega, rfl, by go_num, H1.out, HUP.out (by first | rfl | trivial), HB3.out⟩
        case measure =>
          have h3 := HN.out
          (simp [intOf]) <;> omega
      · have HM := Lib.hid hmn
        go_wp2_with (first | ((with_reducible refine (HWI.out _ HBEL.out).mono ?_); rintro e w2 ⟨v2, rfl, ho2, hb2⟩; have HS2 := Lib.hid (own_lots ho2 rfl); have HB2 := Lib.hid (HBEL.out.trans (hb2.mono HBEL.out.size)); clear ho2 hb2) | ((with_reducible refine (HGO.out _ _ HB2.out HS2.out).mono ?_); rintro e w3 ⟨rfl, hb3⟩; have HB3 := Lib.hid (HB2.out.trans (hb3.mono HB2.out.size)); clear hb3) | fail)
        go_roundw
        case rel =>
          have h3 := HN.out
          exact ⟨n, b, by omega, by omega, by go_num, rfl, .inr HM.out, H2.out, HB3.out⟩
        case measure =>
          have h3 := HN.out
          (simp [intOf]) <;> omega
    · have t1 : decide ((a : Int) < (b : Int)) = false := decide_eq_false (by omega)
      have HQ : Hid (mostP may c = a) := Lib.hid (mostP_eq (by omega) H1.out fun k hk1 hk2 => H2.out k (by omega) hk2)
      go_wp2_with fail
      go_ret
      exact ⟨by rw [HFQ.out, HQ.out]; rfl, HBEL.out⟩
end Go.Proofs.YtgnfdplphpejaaaGreatDoor.Sc
namespace Go.Proofs.YtgnfdplphpejaaaGreatDoor.Sc
open Go Go.RowKit Go.ChangeShapes Go.WideShapes Go.ChangeAt
set_option maxRecDepth 100000

set_option maxHeartbeats 8000000 in
theorem refAhead_any (t : List Gd) (a b : Lt) (vt : Value) (w : World) (hst : Sl w 4 vt (t.map Gd.row)) (ha : ∃ x, gOf t a.good = some x) (hb : ∃ y, gOf t b.good = some y) :
    Calls Tryz.prog 68 #[vt, .agg #[.string a.good, .int .i64 a.cnt], .agg #[.string b.good, .int .i64 b.cnt]] w (RetB w (aheadP t a b)) := by
  obtain ⟨x, hx⟩ := ha
  obtain ⟨y, hy⟩ := hb
  have hq := ahead_some hx hy
  rcases gFind_of a.good t 0 with ⟨-, e2⟩ | ⟨i, hi, e1, e2⟩
  · rw [hx] at e2; cases e2
  rcases gFind_of b.good t 0 with ⟨-, f2⟩ | ⟨j, hj, f1, f2⟩
  · rw [hy] at f2; cases f2
  rw [Nat.zero_add] at e1 f1
  obtain rfl : x = t[i] := by rw [hx] at e2; exact Option.some.inj e2
  obtain rfl : y = t[j] := by rw [hy] at f2; exact Option.some.inj f2
  obtain ⟨at', ct, rfl⟩ : ∃ a c, vt = .slice a t.length c := by simpa using hst.shape
  obtain ⟨bb, off, rfl, -, hbl, hc⟩ := hst.at (i := i) (by simpa using hi)
  obtain ⟨an, ac⟩ := a
  obtain ⟨bn, bc⟩ := b
  simp only at hq e1 f1 hx hy ⊢
  obtain ⟨w2, hw2⟩ : ∃ w2, w2 = (w.alloc (.cells #[.string an, .int .i64 ac] 38)).alloc (.cells #[.string bn, .int .i64 bc] 38) := ⟨_, rfl⟩
  obtain ⟨b4, hb4⟩ : ∃ b, b = w.heap.size := ⟨_, rfl⟩
  obtain ⟨b5, hb5⟩ : ∃ b, b = w.heap.size + 1 := ⟨_, rfl⟩
  have HB2 : Hid (Below w.heap.size w w2) := Lib.hid (by rw [hw2]; exact (one_below w _).alloc (one_below w _).size _)
  have h4 : w2.heap[b4]? = some (.cells #[.string an, .int .i64 ac] 38 (0, 0)) := by
    rw [hw2, hb4]
    exact blk (one_below _ _) (lt_blk (heap_alloc_new w _)) (heap_alloc_new w _)
  have h5 : w2.heap[b5]? = some (.cells #[.string bn, .int .i64 bc] 38 (0, 0)) := by
    have := heap_alloc_new (w.alloc (.cells #[.string an, .int .i64 ac] 38)) (.cells #[.string bn, .int .i64 bc] 38)
    rw [hw2, hb5]
    simpa using this
  have HA : Hid (∀ W, Below w2.heap.size w2 W → W.cell? ⟨b4, 0, none⟩ = some (.string an) ∧ W.cell? ⟨b5, 0, none⟩ = some (.string bn)) := Lib.hid fun W hW => ⟨cell_blk (blk hW (lt_blk h4) h4) 0, cell_blk (blk hW (lt_blk h5) h5) 0⟩
  have H4L := Lib.hid (lt_blk h4)
  have H5L := Lib.hid (lt_blk h5)
  have hst2 := hst.below HB2.out (Nat.le_refl _)
  have hcell : ∀ (n : Nat) (hn : n < t.length) W, Below w2.heap.size w2 W → W.cell? ⟨bb, off + n * 4, none⟩ = some (.string t[n].code) ∧ W.cell? ⟨bb, off + n * 4 + 1, none⟩ = some (.int .i64 t[n].cls) ∧ W.cell? ⟨bb, off + n * 4 + 2, none⟩ = some (.int .i64 t[n].wt) ∧ W.cell? ⟨bb, off + n * 4 + 3, none⟩ = some (.int .i64 t[n].vol) := fun n hn W hW => by
    obtain ⟨b1, o1, he, -, -, hc⟩ := (hst2.below hW (Nat.le_refl _)).at (i := n) (by simpa using hn)
    simp only [Option.some.injEq, Addr.mk.injEq, and_true] at he
    obtain ⟨rfl, rfl⟩ := he
    exact ⟨hc n t[n].row (by simp [hn]) 0 _ rfl, hc n t[n].row (by simp [hn]) 1 _ rfl, hc n t[n].row (by simp [hn]) 2 _ rfl, hc n t[n].row (by simp [hn]) 3 _ rfl⟩
  have HX := Lib.hid (hcell i hi)
  have HY := Lib.hid (hcell j hj)
  have HFA : Hid (∀ W, Below w2.heap.size w2 W → Calls Tryz.prog 27 #[.slice (some ⟨bb, off, none⟩) t.length ct, .string an] W (Ret W (.int .i64 ((i : Nat) : Int)))) := Lib.hid fun W hW => by
    have := gFind_any t an _ W (hst2.below hW (Nat.le_refl _))
    rwa [e1] at this
  have HFB : Hid (∀ W, Below w2.heap.size w2 W → Calls Tryz.prog 27 #[.slice (some ⟨bb, off, none⟩) t.length ct, .string bn] W (Ret W (.int .i64 ((j : Nat) : Int)))) := Lib.hid fun W hW => by
    have := gFind_any t bn _ W (hst2.below hW (Nat.le_refl _))
    rwa [f1] at this
  have ti : ((i : Nat) : Int) < (t.length : Int) := by omega
  have tj : ((j : Nat) : Int) < (t.length : Int) := by omega
  generalize t[i] = x at *
  generalize t[j] = y at *
  obtain ⟨c1, l1, p1, v1⟩ := x
  obtain ⟨c2, l2, p2, v2⟩ := y
  simp only at hq HX HY
  have HQ := Lib.hid hq
  have HL2 : Hid (Op.bytesLess an.toList bn.toList = decide (bt an < bt bn)) := Lib.hid (less_bt an bn)
  clear hst hst2 hcell hc hq e1 e2 f1 f2 hx hy hi hj h4 h5 hbl
  by_cases hv : v1 = v2
  rotate_left
  · have t1 : (v1 != v2) = true := by simp [hv]
    have HR : Hid (aheadP t ⟨an, ac⟩ ⟨bn, bc⟩ = decide (v2 < v1)) := Lib.hid (by rw [HQ.out, if_neg hv])
    clear HQ
    cases tv : decide (v2 < v1)
    all_goals
      rw [tv] at HR
      clear hv
      go_enter Tryz.func68, Tryz.ntmps68
      go_wp2_with fail
      rw [← hb5, ← hb4, ← hw2]
      clear hb5 hb4 hw2
      go_wp2_with (first | ((with_reducible refine (HFA.out _ (Below.refl _ _)).mono ?_); rintro e w3 ⟨rfl, hb3⟩; have HB4 := Lib.hid ((one_below w3 (.cells #[.string c1, .int .i64 l1, .int .i64 p1, .int .i64 v1] 51)).mono hb3.size |> hb3.trans); have HN3 := Lib.hid (heap_alloc_new w3 (.cells #[.string c1, .int .i64 l1, .int .i64 p1, .int .i64 v1] 51)); have h5lt := Nat.lt_of_lt_of_le H5L.out hb3.size; have y1 := (HA.out w3 hb3).2; obtain ⟨x0, x1, x2, x3⟩ := HX.out w3 hb3; clear hb3) | ((with_reducible refine (HFB.out _ HB4.out).mono ?_); rintro e w5 ⟨rfl, hb5⟩; have HB6 := Lib.hid (HB4.out.trans (hb5.mono HB4.out.size)); have HB7 := Lib.hid (HB6.out.trans ((one_below w5 (.cells #[.string c2, .int .i64 l2, .int .i64 p2, .int .i64 v2] 51)).mono HB6.out.size)); clear y1 x0 x1 x2 x3; have k3 := blk hb5 (lt_blk HN3.out) HN3.out; have k4 := lt_blk k3; have z2 := cell_blk k3 2; have z3 := cell_blk k3 3; obtain ⟨x0, x1, x2, x3⟩ := HY.out w5 HB6.out; have y1 := (HA.out w5 HB6.out).2; have y0 := (HA.out w5 HB6.out).1; have h5lt := Nat.lt_of_lt_of_le H5L.out HB6.out.size; have h4lt := Nat.lt_of_lt_of_le H4L.out HB6.out.size; clear hb5 k3) | fail)
      go_ret
      exact retB HR.out.symm (HB2.out.trans (HB7.out.mono HB2.out.size))
  have t1 : (v1 != v2) = false := by simp [hv]
  rw [if_pos hv] at HQ
  clear hv
  by_cases hp : p1 = p2
  rotate_left
  · have t2 : (p1 != p2) = true := by simp [hp]
    have HR : Hid (aheadP t ⟨an, ac⟩ ⟨bn, bc⟩ = decide (p2 < p1)) := Lib.hid (by rw [HQ.out, if_neg hp])
    clear HQ
    cases tv : decide (p2 < p1)
    all_goals
      rw [tv] at HR
      clear hp
      go_enter Tryz.func68, Tryz.ntmps68
      go_wp2_with fail
      rw [← hb5, ← hb4, ← hw2]
      clear hb5 hb4 hw2
      go_wp2_with (first | ((with_reducible refine (HFA.out _ (Below.refl _ _)).mono ?_); rintro e w3 ⟨rfl, hb3⟩; have HB4 := Lib.hid ((one_below w3 (.cells #[.string c1, .int .i64 l1, .int .i64 p1, .int .i64 v1] 51)).mono hb3.size |> hb3.trans); have HN3 := Lib.hid (heap_alloc_new w3 (.cells #[.string c1, .int .i64 l1, .int .i64 p1, .int .i64 v1] 51)); have h5lt := Nat.lt_of_lt_of_le H5L.out hb3.size; have y1 := (HA.out w3 hb3).2; obtain ⟨x0, x1, x2, x3⟩ := HX.out w3 hb3; clear hb3) | ((with_reducible refine (HFB.out _ HB4.out).mono ?_); rintro e w5 ⟨rfl, hb5⟩; have HB6 := Lib.hid (HB4.out.trans (hb5.mono HB4.out.size)); have HB7 := Lib.hid (HB6.out.trans ((one_below w5 (.cells #[.string c2, .int .i64 l2, .int .i64 p2, .int .i64 v2] 51)).mono HB6.out.size)); clear y1 x0 x1 x2 x3; have k3 := blk hb5 (lt_blk HN3.out) HN3.out; have k4 := lt_blk k3; have z2 := cell_blk k3 2; have z3 := cell_blk k3 3; obtain ⟨x0, x1, x2, x3⟩ := HY.out w5 HB6.out; have y1 := (HA.out w5 HB6.out).2; have y0 := (HA.out w5 HB6.out).1; have h5lt := Nat.lt_of_lt_of_le H5L.out HB6.out.size; have h4lt := Nat.lt_of_lt_of_le H4L.out HB6.out.size; clear hb5 k3) | fail)
      go_ret
      exact retB HR.out.symm (HB2.out.trans (HB7.out.mono HB2.out.size))
  have t2 : (p1 != p2) = false := by simp [hp]
  rw [if_pos hp] at HQ
  clear hp
  cases tv : decide (bt an < bt bn)
  all_goals
    rw [tv] at HQ HL2
    have t3 := HL2.out
    go_enter Tryz.func68, Tryz.ntmps68
    go_wp2_with fail
    rw [← hb5, ← hb4, ← hw2]
    clear hb5 hb4 hw2
    go_wp2_with (first | ((with_reducible refine (HFA.out _ (Below.refl _ _)).mono ?_); rintro e w3 ⟨rfl, hb3⟩; have HB4 := Lib.hid ((one_below w3 (.cells #[.string c1, .int .i64 l1, .int .i64 p1, .int .i64 v1] 51)).mono hb3.size |> hb3.trans); have HN3 := Lib.hid (heap_alloc_new w3 (.cells #[.string c1, .int .i64 l1, .int .i64 p1, .int .i64 v1] 51)); have h5lt := Nat.lt_of_lt_of_le H5L.out hb3.size; have y1 := (HA.out w3 hb3).2; obtain ⟨x0, x1, x2, x3⟩ := HX.out w3 hb3; clear hb3) | ((with_reducible refine (HFB.out _ HB4.out).mono ?_); rintro e w5 ⟨rfl, hb5⟩; have HB6 := Lib.hid (HB4.out.trans (hb5.mono HB4.out.size)); have HB7 := Lib.hid (HB6.out.trans ((one_below w5 (.cells #[.string c2, .int .i64 l2, .int .i64 p2, .int .i64 v2] 51)).mono HB6.out.size)); clear y1 x0 x1 x2 x3; have k3 := blk hb5 (lt_blk HN3.out) HN3.out; have k4 := lt_blk k3; have z2 := cell_blk k3 2; have z3 := cell_blk k3 3; obtain ⟨x0, x1, x2, x3⟩ := HY.out w5 HB6.out; have y1 := (HA.out w5 HB6.out).2; have y0 := (HA.out w5 HB6.out).1; have h5lt := Nat.lt_of_lt_of_le H5L.out HB6.out.size; have h4lt := Nat.lt_of_lt_of_le H4L.out HB6.out.size; clear hb5 k3) | fail)
    go_ret
    exact retB HQ.out.symm (HB2.out.trans (HB7.out.mono HB2.out.size))
end Go.Proofs.YtgnfdplphpejaaaGreatDoor.Sc
namespace Go.Proofs.YtgnfdplphpejaaaGreatDoor.Sc
open Go Go.RowKit Go.ChangeShapes Go.WideShapes Go.ChangeAt
set_option maxRecDepth 100000

theorem insO_at (t : List Gd) (x : Lt) : ∀ (D : List Lt) (k : Nat), k ≤ D.length → (∀ j (h : j < D.length), j < k → aheadP t D[j] x = true) → (∀ h : k < D.length, aheadP t D[k] x = false) → insO t D x = D.take k ++ [x] ++ D.drop k
  | [], k, hk, _, _ => by
    obtain rfl : k = 0 := by simpa using hk
    rfl
  | y :: r, 0, _, _, h2 => by
    have h : aheadP t y x = false := h2 (by simp)
    rw [insO, if_neg (by rw [h]; exact Bool.false_ne_true)]
    rfl
  | y :: r, k + 1, hk, h1, h2 => by
    have h : aheadP t y x = true := h1 0 (by simp) (by omega)
    rw [insO, if_pos h, insO_at t x r k (by simpa using hk) (fun j hj hjk => h1 (j + 1) (by simpa using hj) (by omega)) (fun h => h2 (by simpa using h))]
    rfl
theorem foldO_snoc {t : List Gd} {A : List Lt} {n : Nat} (h : n < A.length) : (A.take (n + 1)).foldl (insO t) [] = insO t ((A.take n).foldl (insO t) []) A[n] := by
  rw [List.take_succ_eq_append_getElem h, List.foldl_append]
  rfl
set_option maxHeartbeats 16000000 in
theorem refOrder_any (t : List Gd) (l : List Lt) (vt vl : Value) (w : World) (hst : Sl w 4 vt (t.map Gd.row)) (hs : Sl w 2 vl (l.map Lt.row)) (hl : l.length ≤ 4000) (hin : AllIn t l) :
    Calls Tryz.prog 35 #[vt, vl] w (RetRow w 38 2 (ordL t l).length (ltCells (ordL t l))) := by
  obtain ⟨A, hA⟩ : ∃ A, A = joinL l := ⟨_, rfl⟩
  have HORD : Hid (ordL t l = A.foldl (insO t) []) := Lib.hid (by rw [hA]; rfl)
  have hdf := diff_join hin
  rw [← hA] at hdf
  have HKN := Lib.hid hdf.2
  have hal : A.length ≤ 4000 := by have := joinL_length l; rw [← hA] at this; omega
  have HJN := Lib.hid (fun W (hW : Below w.heap.size w W) => refJoin_any l vl W (hs.below hW (Nat.le_refl _)) hl (fun x hx => by have := lot_range (hin x hx).1; omega))
  rw [← hA] at HJN
  have HST := Lib.hid (fun W (hW : Below w.heap.size w W) => hst.below hW (Nat.le_refl _))
  obtain ⟨i0, hi, hz, hsz, hby⟩ := info_parts infoLt
  have HI := Lib.hid (And.intro hi (And.intro hz (And.intro hsz hby)))
  have HO0 : Hid ((w.alloc (.cells #[] 38)).ownsRow w.heap.size 38 2 (.slice (some ⟨w.heap.size, 0, none⟩) 0 0) 0 []) := Lib.hid (own_empty (Nat.le_refl _))
  have HB0 : Hid (Below w.heap.size w (w.alloc (.cells #[] 38))) := Lib.hid (one_below w _)
  clear hst hs hl hin hA hdf hi hz hsz hby
  go_enter Tryz.func35, Tryz.ntmps35
  go_wp2_with (first
    | ((with_reducible refine (HJN.out _ HB0.out).mono ?_); rintro e w2 ⟨v2, rfl, ho2, hb2⟩; have HO2 := Lib.hid (ownsRow_below HO0.out hb2); have HS := Lib.hid (own_lots ho2 rfl); have HB2 := Lib.hid (HB0.out.trans (hb2.mono HB0.out.size)); clear ho2 hb2)
    | fail)
  obtain ⟨a, c, rfl⟩ : ∃ a c, v2 = .slice a A.length c := by simpa using HS.out.shape
  go_loopw [5, 7, 8] (fun o i _ wr => ∃ n : Nat, n ≤ A.length ∧ i = .int .i64 n ∧ wr.ownsRow w.heap.size 38 2 o ((A.take n).foldl (insO t) []).length (ltCells ((A.take n).foldl (insO t) [])) ∧ Below w2.heap.size w2 wr) (fun _ i _ _ => A.length - (intOf i).toNat)
  case atStart => exact ⟨0, Nat.zero_le _, rfl, HO2.out, Below.refl _ _⟩
  case round =>
    obtain ⟨n, hn, rfl, hown, hbel⟩ := hrel
    have HOWN := Lib.hid hown
    have HBEL := Lib.hid hbel
    by_cases hlt : n < A.length
    rotate_left
    · have HE : Hid (A.take n = A) := Lib.hid (List.take_of_length_le (by omega))
      clear hown hbel hn
      go_wp2_with fail
      go_ret
      have ho := HOWN.out
      rw [HE.out, ← HORD.out] at ho
      exact retRow ho (Nat.le_refl _) (HB2.out.trans (HBEL.out.mono HB2.out.size))
    obtain ⟨b, off, rfl, -, hb, hc⟩ := HS.out.at (i := n) (by simpa using hlt)
    have hr := hc n A[n].row (by simp [hlt])
    have HX0 : Hid (∀ W, Below w2.heap.size w2 W → W.cell? ⟨b, off + n * 2, none⟩ = some (.string A[n].good) ∧ W.cell? ⟨b, off + n * 2 + 1, none⟩ = some (.int .i64 A[n].cnt)) := Lib.hid fun W hW =>
      ⟨(hW.cell (p := ⟨b, off + n * 2, none⟩) hb).trans (hr 0 _ rfl), (hW.cell (p := ⟨b, off + n * 2 + 1, none⟩) hb).trans (hr 1 _ rfl)⟩
    have HNX := Lib.hid (foldO_snoc (t := t) hlt)
    have HNL := Lib.hid hlt
    have hpm : ((A.take n).foldl (insO t) []).Perm (A.take n) := by have := foldO_perm t (A.take n) []; rwa [List.append_nil] at this
    have HLL : Hid (((A.take n).foldl (insO t) []).length ≤ 4000) := Lib.hid (by rw [hpm.length_eq, List.length_take]; omega)
    have HKX := Lib.hid (HKN.out A[n] (List.getElem_mem hlt))
    have HKD : Hid (∀ k (h : k < ((A.take n).foldl (insO t) []).length), ∃ g, gOf t ((A.take n).foldl (insO t) [])[k].good = some g) := Lib.hid fun k h => HKN.out _ (List.mem_of_mem_take (hpm.mem_iff.1 (List.getElem_mem h)))
    obtain ⟨ao, co, rfl⟩ : ∃ a c, u5 = .slice a ((A.take n).foldl (insO t) []).length c := by simpa using (own_lots HOWN.out rfl).shape
    have tn : ((n : Nat) : Int) < (A.length : Int) := by omega
    generalize A[n] = x at *
    generalize (A.take n).foldl (insO t) [] = L at *
    obtain ⟨xn, xc⟩ := x
    simp only at HX0 HKX
    clear hb hc hr hown hbel hn hpm hlt
    go_wp2_with fail
    generalize wr = w5 at *
    have HSO := Lib.hid (own_lots HOWN.out rfl)
    have HX := Lib.hid (fun W (hW : Below w5.heap.size w5 W) => HX0.out W (HBEL.out.trans (hW.mono HBEL.out.size)))
    have HST := Lib.hid (fun W (hW : Below w5.heap.size w5 W) => HST.out W (HB2.out.trans ((HBEL.out.trans (hW.mono HBEL.out.size)).mono HB2.out.size)))
    have HBE2 := HBEL
    have HBEL := Lib.hid (HB2.out.trans (HBEL.out.mono HB2.out.size))
    go_loopw [8] (fun i wr => ∃ k : Nat, k ≤ L.length ∧ i = .int .i64 k ∧ (∀ j (h : j < L.length), j < k → aheadP t L[j] ⟨xn, xc⟩ = true) ∧ Below w5.heap.size w5 wr) (fun i _ => L.length - (intOf i).toNat)
    case atStart => exact ⟨0, Nat.zero_le _, rfl, fun _ _ h => absurd h (by omega), Below.refl _ _⟩
    case round =>
      obtain ⟨k, hk, rfl, hlo, hin⟩ := hrel
      have HLO := Lib.hid hlo
      have HBL := Lib.hid hin
      have HKL := Lib.hid hk
      clear hlo hin
      by_cases hlk : k < L.length
      · have tk : ((k : Nat) : Int) < (L.length : Int) := by omega
        have hkb : (k : Int) ≤ 4000 := by have := HLL.out; omega
        obtain ⟨g, co', cur, hv3, hh, hg⟩ := own_pos HOWN.out (by omega)
        obtain ⟨rfl, rfl⟩ : ao = some ⟨g, 0, none⟩ ∧ co = co' := by
          simp only [Value.slice.injEq] at hv3
          exact ⟨hv3.1, hv3.2.2⟩
        have HY : Hid (∀ W, Below w5.heap.size w5 W → W.cell? ⟨g, k * 2, none⟩ = some (.string L[k].good) ∧ W.cell? ⟨g, k * 2 + 1, none⟩ = some (.int .i64 L[k].cnt)) := Lib.hid fun W hW => by
          obtain ⟨b1, o1, he, -, -, hc⟩ := (HSO.out.below hW (Nat.le_refl _)).at (i := k) (by simpa using hlk)
          simp only [Option.some.injEq, Addr.mk.injEq, and_true] at he
          obtain ⟨rfl, rfl⟩ := he
          have c0 := hc k L[k].row (by rw [List.getElem?_map, List.getElem?_eq_getElem hlk]; rfl) 0 _ rfl
          have c1 := hc k L[k].row (by rw [List.getElem?_map, List.getElem?_eq_getElem hlk]; rfl) 1 _ rfl
          rw [Nat.zero_add] at c0 c1
          exact ⟨c0, c1⟩
        have HAH := Lib.hid (fun W (hW : Below w5.heap.size w5 W) => refAhead_any t L[k] ⟨xn, xc⟩ vt W (HST.out W hW) (HKD.out k hlk) HKX.out)
        have HMO := Lib.hid (fun (hs : aheadP t L[k] ⟨xn, xc⟩ = true) j (h : j < L.length) (hj : j < k + 1) => (by
          rcases Nat.lt_or_ge j k with h1 | h1
          · exact HLO.out j h h1
          · obtain rfl : j = k := by omega
            exact hs : aheadP t L[j] ⟨xn, xc⟩ = true))
        have HJI := Lib.hid (fun (h1 : aheadP t L[k] ⟨xn, xc⟩ = false) => insO_at t ⟨xn, xc⟩ L k hk HLO.out fun _ => h1)
        have hkk : k + 1 ≤ L.length := hlk
        clear hv3 hh hg
        generalize L[k] = y at *
        obtain ⟨yn, yc⟩ := y
        simp only at HY HAH
        cases hs : aheadP t ⟨yn, yc⟩ ⟨xn, xc⟩
        rotate_left
        · rw [hs] at HAH
          have HMO := Lib.hid (HMO.out hs)
          have HKL := Lib.hid hkk
          clear hs HJI hk hlk hkk
          go_wp2_with fail
          refine Any.region_lit (fun
            | 0 => Any.val (.int .i64 (k : Int))
            | 1 => Any.val (.slice (some ⟨g, 0, none⟩) L.length co)
            | 2 => Any.val (.int .i64 (L.length : Int))
            | 3 => Any.val (.bool true)
            | 4 => Any.val (.bool true)
            | 5 => Any.val (vt)
            | 6 => Any.val (.slice (some ⟨g, 0, none⟩) L.length co)
            | 7 => Any.val (.int .i64 (k : Int))
            | 8 => Any.val (.pointer (some ⟨g, k * 2, none⟩))
            | 9 => Any.val (.agg #[.string yn, .int .i64 yc])
            | 10 => Any.val (.slice (some ⟨b, off, none⟩) A.length c)
            | 11 => Any.val (.int .i64 (n : Int))
            | 12 => Any.val (.pointer (some ⟨b, off + n * 2, none⟩))
            | 13 => Any.val (.agg #[.string xn, .int .i64 xc])
            | 14 => Any.val (.bool true)
            | 15 => Any.val (.bool true)
            | _ => Any.idle) (by kernel_rfl) (by kernel_rfl) (by kernel_rfl) ?_ ?_ ?_
          · intro i _
            match i with
            | 0 => exact Any.lasts_val _
            | 1 => exact Any.lasts_val _
            | 2 => exact Any.lasts_val _
            | 3 => exact Any.lasts_val _
            | 4 => exact Any.lasts_val _
            | 5 => exact Any.lasts_val _
            | 6 => exact Any.lasts_val _
            | 7 => exact Any.lasts_val _
            | 8 => exact Any.lasts_val _
            | 9 => exact Any.lasts_val _
            | 10 => exact Any.lasts_val _
            | 11 => exact Any.lasts_val _
            | 12 => exact Any.lasts_val _
            | 13 => exact Any.lasts_val _
            | 14 => exact Any.lasts_val _
            | 15 => exact Any.lasts_val _
            | n + 16 => exact Any.lasts_idle
          · refine ⟨?_, ?_, ?_, ?_, ?_, ?_, ?_, ?_, ?_, ?_, ?_, ?_, ?_, ?_, ?_, ?_, trivial⟩
            · refine Any.owes_plain rfl fun ρ wo hs' hb hc' => ?_
              have h8 : ρ (.tmp 8) = .int .i64 (k : Int) := hs'.old' 8 (by kernel_rfl)
              exact Any.ok_move (Any.post_val hb rfl h8)
            · refine Any.owes_plain rfl fun ρ wo hs' hb hc' => ?_
              have h5 : ρ (.tmp 5) = .slice (some ⟨g, 0, none⟩) L.length co := hs'.old' 5 (by kernel_rfl)
              exact Any.ok_move (Any.post_val hb rfl h5)
            · refine Any.owes_plain rfl fun ρ wo hs' hb hc' => ?_
              have h19 : ρ (.tmp 19) = .slice (some ⟨g, 0, none⟩) L.length co := hs'.new' 19 1 (by kernel_rfl)
              go_simp
              exact Any.post_val hb rfl rfl
            · refine Any.owes_plain rfl fun ρ wo hs' hb hc' => ?_
              have h18 : ρ (.tmp 18) = .int .i64 (k : Int) := hs'.new' 18 0 (by kernel_rfl)
              have h20 : ρ (.tmp 20) = .int .i64 (L.length : Int) := hs'.new' 20 2 (by kernel_rfl)
              go_simp
              exact Any.post_val hb rfl rfl
            · refine Any.owes_plain rfl fun ρ wo hs' hb hc' => ?_
              have h21 : ρ (.tmp 21) = .bool true := hs'.new' 21 3 (by kernel_rfl)
              exact Any.ok_move (Any.post_val hb rfl h21)
            · refine Any.owes_on rfl rfl (by kernel_rfl) rfl fun ρ wo hs' hb hc' => ?_
              have h0 : ρ (.tmp 0) = vt := hs'.old' 0 (by kernel_rfl)
              exact Any.ok_move (Any.post_val hb rfl h0)
            · refine Any.owes_on rfl rfl (by kernel_rfl) rfl fun ρ wo hs' hb hc' => ?_
              have h5 : ρ (.tmp 5) = .slice (some ⟨g, 0, none⟩) L.length co := hs'.old' 5 (by kernel_rfl)
              exact Any.ok_move (Any.post_val hb rfl h5)
            · refine Any.owes_on rfl rfl (by kernel_rfl) rfl fun ρ wo hs' hb hc' => ?_
              have h8 : ρ (.tmp 8) = .int .i64 (k : Int) := hs'.old' 8 (by kernel_rfl)
              exact Any.ok_move (Any.post_val hb rfl h8)
            · refine Any.owes_on rfl rfl (by kernel_rfl) rfl fun ρ wo hs' hb hc' => ?_
              have h24 : ρ (.tmp 24) = .slice (some ⟨g, 0, none⟩) L.length co := hs'.new' 24 6 (by kernel_rfl)
              have h25 : ρ (.tmp 25) = .int .i64 (k : Int) := hs'.new' 25 7 (by kernel_rfl)
              go_simp
              exact Any.post_val hb rfl rfl
            · refine Any.owes_on rfl rfl (by kernel_rfl) rfl fun ρ wo hs' hb hc' => ?_
              have h26 : ρ (.tmp 26) = .pointer (some ⟨g, k * 2, none⟩) := hs'.new' 26 8 (by kernel_rfl)
              obtain ⟨c0, c1⟩ := HY.out wo (HBL.out.trans ((below_undrew hb).mono HBL.out.size))
              go_simp
              exact Any.post_val hb rfl rfl
            · refine Any.owes_on rfl rfl (by kernel_rfl) rfl fun ρ wo hs' hb hc' => ?_
              have h6 : ρ (.tmp 6) = .slice (some ⟨b, off, none⟩) A.length c := hs'.old' 6 (by kernel_rfl)
              exact Any.ok_move (Any.post_val hb rfl h6)
            · refine Any.owes_on rfl rfl (by kernel_rfl) rfl fun ρ wo hs' hb hc' => ?_
              have h7 : ρ (.tmp 7) = .int .i64 (n : Int) := hs'.old' 7 (by kernel_rfl)
              exact Any.ok_move (Any.post_val hb rfl h7)
            · refine Any.owes_on rfl rfl (by kernel_rfl) rfl fun ρ wo hs' hb hc' => ?_
              have h28 : ρ (.tmp 28) = .slice (some ⟨b, off, none⟩) A.length c := hs'.new' 28 10 (by kernel_rfl)
              have h29 : ρ (.tmp 29) = .int .i64 (n : Int) := hs'.new' 29 11 (by kernel_rfl)
              go_simp
              exact Any.post_val hb rfl rfl
            · refine Any.owes_on rfl rfl (by kernel_rfl) rfl fun ρ wo hs' hb hc' => ?_
              have h30 : ρ (.tmp 30) = .pointer (some ⟨b, off + n * 2, none⟩) := hs'.new' 30 12 (by kernel_rfl)
              obtain ⟨c0, c1⟩ := HX.out wo (HBL.out.trans ((below_undrew hb).mono HBL.out.size))
              go_simp
              exact Any.post_val hb rfl rfl
            · refine Any.owes_on rfl rfl (by kernel_rfl) rfl fun ρ wo hs' hb hc' => ?_
              have h23 : ρ (.tmp 23) = vt := hs'.new' 23 5 (by kernel_rfl)
              have h27 : ρ (.tmp 27) = .agg #[.string yn, .int .i64 yc] := hs'.new' 27 9 (by kernel_rfl)
              have h31 : ρ (.tmp 31) = .agg #[.string xn, .int .i64 xc] := hs'.new' 31 13 (by kernel_rfl)
              have hf := hs'.func 68
              go_simp
              exact (HAH.out wo (HBL.out.trans ((below_undrew hb).mono HBL.out.size))).mono fun e w' ⟨he, hb'⟩ => ⟨_, he, Any.post_vals hb rfl rfl hb'⟩
            · refine Any.owes_plain rfl fun ρ wo hs' hb hc' => ?_
              have h22 : ρ (.tmp 22) = .bool true := hs'.new' 22 4 (by kernel_rfl)
              have h32 : ρ (.tmp 32) = .bool true := hs'.new' 32 14 (by kernel_rfl)
              go_simp
              exact Any.post_val hb rfl rfl
          intro vals w7 hb hk ha
          have h15 : vals 15 = .bool true := hk 15 (by kernel_rfl)
          have HBL := Lib.hid (HBL.out.trans (hb.mono HBL.out.size))
          clear hk ha hb
          simp only [Any.putAll]
          go_frame
          simp only [Nat.zero_add, Nat.reduceAdd]
          rw [h15]
          clear h15
          go_wp2_with fail
          go_roundw
          case rel => exact ⟨k + 1, by have := HKL.out; omega, by go_num, HMO.out, HBL.out⟩
          case measure => have := HKL.out; (simp [intOf]) <;> omega
        · rw [hs] at HAH
          have HJI := Lib.hid (HJI.out hs)
          clear hs HMO hk hlk hkk
          go_wp2_with fail
          refine Any.region_lit (fun
            | 0 => Any.val (.int .i64 (k : Int))
            | 1 => Any.val (.slice (some ⟨g, 0, none⟩) L.length co)
            | 2 => Any.val (.int .i64 (L.length : Int))
            | 3 => Any.val (.bool true)
            | 4 => Any.val (.bool true)
            | 5 => Any.val (vt)
            | 6 => Any.val (.slice (some ⟨g, 0, none⟩) L.length co)
            | 7 => Any.val (.int .i64 (k : Int))
            | 8 => Any.val (.pointer (some ⟨g, k * 2, none⟩))
            | 9 => Any.val (.agg #[.string yn, .int .i64 yc])
            | 10 => Any.val (.slice (some ⟨b, off, none⟩) A.length c)
            | 11 => Any.val (.int .i64 (n : Int))
            | 12 => Any.val (.pointer (some ⟨b, off + n * 2, none⟩))
            | 13 => Any.val (.agg #[.string xn, .int .i64 xc])
            | 14 => Any.val (.bool false)
            | 15 => Any.val (.bool false)
            | _ => Any.idle) (by kernel_rfl) (by kernel_rfl) (by kernel_rfl) ?_ ?_ ?_
          · intro i _
            match i with
            | 0 => exact Any.lasts_val _
            | 1 => exact Any.lasts_val _
            | 2 => exact Any.lasts_val _
            | 3 => exact Any.lasts_val _
            | 4 => exact Any.lasts_val _
            | 5 => exact Any.lasts_val _
            | 6 => exact Any.lasts_val _
            | 7 => exact Any.lasts_val _
            | 8 => exact Any.lasts_val _
            | 9 => exact Any.lasts_val _
            | 10 => exact Any.lasts_val _
            | 11 => exact Any.lasts_val _
            | 12 => exact Any.lasts_val _
            | 13 => exact Any.lasts_val _
            | 14 => exact Any.lasts_val _
            | 15 => exact Any.lasts_val _
            | n + 16 => exact Any.lasts_idle
          · refine ⟨?_, ?_, ?_, ?_, ?_, ?_, ?_, ?_, ?_, ?_, ?_, ?_, ?_, ?_, ?_, ?_, trivial⟩
            · refine Any.owes_plain rfl fun ρ wo hs' hb hc' => ?_
              have h8 : ρ (.tmp 8) = .int .i64 (k : Int) := hs'.old' 8 (by kernel_rfl)
              exact Any.ok_move (Any.post_val hb rfl h8)
            · refine Any.owes_plain rfl fun ρ wo hs' hb hc' => ?_
              have h5 : ρ (.tmp 5) = .slice (some ⟨g, 0, none⟩) L.length co := hs'.old' 5 (by kernel_rfl)
              exact Any.ok_move (Any.post_val hb rfl h5)
            · refine Any.owes_plain rfl fun ρ wo hs' hb hc' => ?_
              have h19 : ρ (.tmp 19) = .slice (some ⟨g, 0, none⟩) L.length co := hs'.new' 19 1 (by kernel_rfl)
              go_simp
              exact Any.post_val hb rfl rfl
            · refine Any.owes_plain rfl fun ρ wo hs' hb hc' => ?_
              have h18 : ρ (.tmp 18) = .int .i64 (k : Int) := hs'.new' 18 0 (by kernel_rfl)
              have h20 : ρ (.tmp 20) = .int .i64 (L.length : Int) := hs'.new' 20 2 (by kernel_rfl)
              go_simp
              exact Any.post_val hb rfl rfl
            · refine Any.owes_plain rfl fun ρ wo hs' hb hc' => ?_
              have h21 : ρ (.tmp 21) = .bool true := hs'.new' 21 3 (by kernel_rfl)
              exact Any.ok_move (Any.post_val hb rfl h21)
            · refine Any.owes_on rfl rfl (by kernel_rfl) rfl fun ρ wo hs' hb hc' => ?_
              have h0 : ρ (.tmp 0) = vt := hs'.old' 0 (by kernel_rfl)
              exact Any.ok_move (Any.post_val hb rfl h0)
            · refine Any.owes_on rfl rfl (by kernel_rfl) rfl fun ρ wo hs' hb hc' => ?_
              have h5 : ρ (.tmp 5) = .slice (some ⟨g, 0, none⟩) L.length co := hs'.old' 5 (by kernel_rfl)
              exact Any.ok_move (Any.post_val hb rfl h5)
            · refine Any.owes_on rfl rfl (by kernel_rfl) rfl fun ρ wo hs' hb hc' => ?_
              have h8 : ρ (.tmp 8) = .int .i64 (k : Int) := hs'.old' 8 (by kernel_rfl)
              exact Any.ok_move (Any.post_val hb rfl h8)
            · refine Any.owes_on rfl rfl (by kernel_rfl) rfl fun ρ wo hs' hb hc' => ?_
              have h24 : ρ (.tmp 24) = .slice (some ⟨g, 0, none⟩) L.length co := hs'.new' 24 6 (by kernel_rfl)
              have h25 : ρ (.tmp 25) = .int .i64 (k : Int) := hs'.new' 25 7 (by kernel_rfl)
              go_simp
              exact Any.post_val hb rfl rfl
            · refine Any.owes_on rfl rfl (by kernel_rfl) rfl fun ρ wo hs' hb hc' => ?_
              have h26 : ρ (.tmp 26) = .pointer (some ⟨g, k * 2, none⟩) := hs'.new' 26 8 (by kernel_rfl)
              obtain ⟨c0, c1⟩ := HY.out wo (HBL.out.trans ((below_undrew hb).mono HBL.out.size))
              go_simp
              exact Any.post_val hb rfl rfl
            · refine Any.owes_on rfl rfl (by kernel_rfl) rfl fun ρ wo hs' hb hc' => ?_
              have h6 : ρ (.tmp 6) = .slice (some ⟨b, off, none⟩) A.length c := hs'.old' 6 (by kernel_rfl)
              exact Any.ok_move (Any.post_val hb rfl h6)
            · refine Any.owes_on rfl rfl (by kernel_rfl) rfl fun ρ wo hs' hb hc' => ?_
              have h7 : ρ (.tmp 7) = .int .i64 (n : Int) := hs'.old' 7 (by kernel_rfl)
              exact Any.ok_move (Any.post_val hb rfl h7)
            · refine Any.owes_on rfl rfl (by kernel_rfl) rfl fun ρ wo hs' hb hc' => ?_
              have h28 : ρ (.tmp 28) = .slice (some ⟨b, off, none⟩) A.length c := hs'.new' 28 10 (by kernel_rfl)
              have h29 : ρ (.tmp 29) = .int .i64 (n : Int) := hs'.new' 29 11 (by kernel_rfl)
              go_simp
              exact Any.post_val hb rfl rfl
            · refine Any.owes_on rfl rfl (by kernel_rfl) rfl fun ρ wo hs' hb hc' => ?_
              have h30 : ρ (.tmp 30) = .pointer (some ⟨b, off + n * 2, none⟩) := hs'.new' 30 12 (by kernel_rfl)
              obtain ⟨c0, c1⟩ := HX.out wo (HBL.out.trans ((below_undrew hb).mono HBL.out.size))
              go_simp
              exact Any.post_val hb rfl rfl
            · refine Any.owes_on rfl rfl (by kernel_rfl) rfl fun ρ wo hs' hb hc' => ?_
              have h23 : ρ (.tmp 23) = vt := hs'.new' 23 5 (by kernel_rfl)
              have h27 : ρ (.tmp 27) = .agg #[.string yn, .int .i64 yc] := hs'.new' 27 9 (by kernel_rfl)
              have h31 : ρ (.tmp 31) = .agg #[.string xn, .int .i64 xc] := hs'.new' 31 13 (by kernel_rfl)
              have hf := hs'.func 68
              go_simp
              exact (HAH.out wo (HBL.out.trans ((below_undrew hb).mono HBL.out.size))).mono fun e w' ⟨he, hb'⟩ => ⟨_, he, Any.post_vals hb rfl rfl hb'⟩
            · refine Any.owes_plain rfl fun ρ wo hs' hb hc' => ?_
              have h22 : ρ (.tmp 22) = .bool true := hs'.new' 22 4 (by kernel_rfl)
              have h32 : ρ (.tmp 32) = .bool false := hs'.new' 32 14 (by kernel_rfl)
              go_simp
              exact Any.post_val hb rfl rfl
          intro vals w7 hb hk ha
          have h15 : vals 15 = .bool false := hk 15 (by kernel_rfl)
          have HBL := Lib.hid (HBL.out.trans (hb.mono HBL.out.size))
          clear hk ha hb
          simp only [Any.putAll]
          go_frame
          simp only [Nat.zero_add, Nat.reduceAdd]
          rw [h15]
          clear h15
          go_wp2_with fail
          generalize w7 = w8 at *
          obtain ⟨i0, hi, hz, hsz, hby⟩ := info_parts infoLt
          have hcap := (Sl.take (m := k) HSO.out (by simpa using HKL.out)).1
          have QT : Hid (∀ w, (Instr.slice 23 (.slice (some ⟨g, 0, none⟩) L.length co) none (some (.int .i64 (k : Int))) none).run Tryz.prog w = .ok (.slice (some ⟨g, 0, none⟩) k co) w) := Lib.hid fun w => Any.run_slice_to Tryz.underlying23 hi (some ⟨g, 0, none⟩) _ co k hcap
          have QF : Hid (∀ w, (Instr.slice 23 (.slice (some ⟨g, 0, none⟩) L.length co) (some (.int .i64 (k : Int))) none none).run Tryz.prog w = .ok (cutV (some ⟨g, 0, none⟩) L.length co k 2) w) := Lib.hid fun w => run_slice_from Tryz.underlying23 hi hsz (some ⟨g, 0, none⟩) _ co k HKL.out
          have HSA : Hid (∀ W, Below w5.heap.size w5 W → Src W 2 (.slice (some ⟨g, 0, none⟩) k co) k (ltCells (L.take k))) := Lib.hid fun W hW => by
            have h1 := (Sl.take (m := k) (HSO.out.below hW (Nat.le_refl _)) (by simpa using HKL.out)).2
            rw [← List.map_take] at h1
            have h2 := src_lots h1
            rwa [List.length_take, Nat.min_eq_left HKL.out] at h2
          have HSD : Hid (∀ W, Below w5.heap.size w5 W → Src W 2 (cutV (some ⟨g, 0, none⟩) L.length co k 2) (L.length - k) (ltCells (L.drop k))) := Lib.hid fun W hW => by
            have h1 := Sl.drop (k := k) (HSO.out.below hW (Nat.le_refl _)) (by simpa using HKL.out)
            rw [← List.map_drop] at h1
            have h2 := src_lots h1
            rwa [List.length_drop] at h2
          have HL : Hid (k + 1 ≤ maxLen ∧ (k + 1) * 24 ≤ 140737488355328) := Lib.hid (by have := HKL.out; have := HLL.out; simp only [maxLen]; omega)
          have HL2 : Hid (k + 1 + (L.length - k) ≤ maxLen ∧ (k + 1 + (L.length - k)) * 24 ≤ 140737488355328) := Lib.hid (by have := HKL.out; have := HLL.out; simp only [maxLen]; omega)
          clear hi hz hsz hby hcap
          refine Any.region_lit (fun
            | 0 => Any.row w8.heap.size 38 2 (0) ([]) []
            | 1 => Any.val (.slice (some ⟨g, 0, none⟩) L.length co)
            | 2 => Any.val (.int .i64 (k : Int))
            | 3 => Any.val (.slice (some ⟨g, 0, none⟩) k co)
            | 4 => Any.row w8.heap.size 38 2 (k) (ltCells (L.take k)) [0]
            | 5 => Any.val (.slice (some ⟨b, off, none⟩) A.length c)
            | 6 => Any.val (.int .i64 (n : Int))
            | 7 => Any.val (.pointer (some ⟨b, off + n * 2, none⟩))
            | 8 => Any.val (.agg #[.string xn, .int .i64 xc])
            | 9 => Any.made 38 1 #[.string xn, .int .i64 xc]
            | 10 => Any.row w8.heap.size 38 2 (k + 1) (ltCells (L.take k) ++ [.string xn, .int .i64 xc]) [4]
            | 11 => Any.val (.slice (some ⟨g, 0, none⟩) L.length co)
            | 12 => Any.val (.int .i64 (k : Int))
            | 13 => Any.val (cutV (some ⟨g, 0, none⟩) L.length co k 2)
            | 14 => Any.row w8.heap.size 38 2 (k + 1 + (L.length - k)) (ltCells (L.take k) ++ [.string xn, .int .i64 xc] ++ ltCells (L.drop k)) [10]
            | 15 => Any.row w8.heap.size 38 2 (k + 1 + (L.length - k)) (ltCells (L.take k) ++ [.string xn, .int .i64 xc] ++ ltCells (L.drop k)) [14]
            | _ => Any.idle) (by kernel_rfl) (by kernel_rfl) (by kernel_rfl) ?_ ?_ ?_
          · intro i _
            match i with
            | 0 => exact Any.lasts_row _ _ _ _ _ _
            | 1 => exact Any.lasts_val _
            | 2 => exact Any.lasts_val _
            | 3 => exact Any.lasts_val _
            | 4 => exact Any.lasts_row _ _ _ _ _ _
            | 5 => exact Any.lasts_val _
            | 6 => exact Any.lasts_val _
            | 7 => exact Any.lasts_val _
            | 8 => exact Any.lasts_val _
            | 9 => exact Any.lasts_made _ _ _
            | 10 => exact Any.lasts_row _ _ _ _ _ _
            | 11 => exact Any.lasts_val _
            | 12 => exact Any.lasts_val _
            | 13 => exact Any.lasts_val _
            | 14 => exact Any.lasts_row _ _ _ _ _ _
            | 15 => exact Any.lasts_row _ _ _ _ _ _
            | n + 16 => exact Any.lasts_idle
          · refine ⟨?_, ?_, ?_, ?_, ?_, ?_, ?_, ?_, ?_, ?_, ?_, ?_, ?_, ?_, ?_, ?_, trivial⟩
            · refine Any.owes_plain rfl fun ρ wo hs' hb hc' => ?_
              go_simp
              exact Any.post_new hb (own_empty (show w8.heap.size ≤ wo.heap.size from hb.size)) (one_below _ _) (by intro b hb'; obtain rfl : wo.heap.size = b := Option.some.inj hb'; exact Nat.le_refl _)
            · refine Any.owes_plain rfl fun ρ wo hs' hb hc' => ?_
              have h5 : ρ (.tmp 5) = .slice (some ⟨g, 0, none⟩) L.length co := hs'.old' 5 (by kernel_rfl)
              exact Any.ok_move (Any.post_val hb rfl h5)
            · refine Any.owes_plain rfl fun ρ wo hs' hb hc' => ?_
              have h8 : ρ (.tmp 8) = .int .i64 (k : Int) := hs'.old' 8 (by kernel_rfl)
              exact Any.ok_move (Any.post_val hb rfl h8)
            · refine Any.owes_plain rfl fun ρ wo hs' hb hc' => ?_
              have h37 : ρ (.tmp 37) = .slice (some ⟨g, 0, none⟩) L.length co := hs'.new' 37 1 (by kernel_rfl)
              have h38 : ρ (.tmp 38) = .int .i64 (k : Int) := hs'.new' 38 2 (by kernel_rfl)
              have q1 := QT.out wo
              go_simp
              exact Any.post_val hb rfl rfl
            · refine Any.owes_plain rfl fun ρ wo hs' hb hc' => ?_
              have h39 : ρ (.tmp 39) = .slice (some ⟨g, 0, none⟩) k co := hs'.new' 39 3 (by kernel_rfl)
              have h8 : wo.ownsRow w8.heap.size 38 2 (ρ (.tmp 36)) 0 [] := hs'.new' 36 0 (by kernel_rfl)
              have hsrc : Src wo 2 (ρ (.tmp 39)) k (ltCells (L.take k)) := by rw [h39]; exact HSA.out wo (HBL.out.trans ((below_undrew hb).mono HBL.out.size))
              refine Any.ok_append_own Tryz.underlying23 HI.out.1 HI.out.2.1 HI.out.2.2.1 HI.out.2.2.2 rfl (by decide) h8 hsrc (ltCells_one _) (by have := HL.out.1; omega) (by have := HL.out.2; omega) (show w8.heap.size ≤ wo.heap.size from hb.size) fun v' w' h1 h2 h3 => ?_
              rw [List.nil_append, Nat.zero_add] at h1
              exact Any.post_take hb h1 h2 rfl ⟨_, _, _, rfl⟩ rfl rfl (Nat.le_refl _) h3 (fun b hb => (h8.lt b hb).1)
            · refine Any.owes_plain rfl fun ρ wo hs' hb hc' => ?_
              have h6 : ρ (.tmp 6) = .slice (some ⟨b, off, none⟩) A.length c := hs'.old' 6 (by kernel_rfl)
              exact Any.ok_move (Any.post_val hb rfl h6)
            · refine Any.owes_plain rfl fun ρ wo hs' hb hc' => ?_
              have h7 : ρ (.tmp 7) = .int .i64 (n : Int) := hs'.old' 7 (by kernel_rfl)
              exact Any.ok_move (Any.post_val hb rfl h7)
            · refine Any.owes_plain rfl fun ρ wo hs' hb hc' => ?_
              have h41 : ρ (.tmp 41) = .slice (some ⟨b, off, none⟩) A.length c := hs'.new' 41 5 (by kernel_rfl)
              have h42 : ρ (.tmp 42) = .int .i64 (n : Int) := hs'.new' 42 6 (by kernel_rfl)
              go_simp
              exact Any.post_val hb rfl rfl
            · refine Any.owes_plain rfl fun ρ wo hs' hb hc' => ?_
              have h43 : ρ (.tmp 43) = .pointer (some ⟨b, off + n * 2, none⟩) := hs'.new' 43 7 (by kernel_rfl)
              obtain ⟨c0, c1⟩ := HX.out wo (HBL.out.trans ((below_undrew hb).mono HBL.out.size))
              go_simp
              exact Any.post_val hb rfl rfl
            · refine Any.owes_plain rfl fun ρ wo hs' hb hc' => ?_
              have h44 : ρ (.tmp 44) = .agg #[.string xn, .int .i64 xc] := hs'.new' 44 8 (by kernel_rfl)
              go_simp
              exact Any.post_new hb ⟨_, rfl, heap_alloc_new _ _⟩ (one_below _ _) (by intro b hb'; obtain rfl : wo.heap.size = b := Option.some.inj hb'; exact Nat.le_refl _)
            · refine Any.owes_plain rfl fun ρ wo hs' hb hc' => ?_
              have h8 : wo.ownsRow w8.heap.size 38 2 (ρ (.tmp 40)) (k) (ltCells (L.take k)) := hs'.new' 40 4 (by kernel_rfl)
              obtain ⟨g, hg, hgb⟩ := hs'.new' 45 9 (by kernel_rfl)
              have hsrc : Src wo 2 (ρ (.tmp 45)) 1 [.string xn, .int .i64 xc] := by rw [hg]; exact src_block hgb rfl
              refine Any.ok_append_own Tryz.underlying23 HI.out.1 HI.out.2.1 HI.out.2.2.1 HI.out.2.2.2 rfl (by decide) h8 hsrc (lt_one xn xc) HL.out.1 HL.out.2 (show w8.heap.size ≤ wo.heap.size from hb.size) fun v' w' h1 h2 h3 => ?_
              exact Any.post_take hb h1 h2 rfl ⟨_, _, _, rfl⟩ rfl rfl (Nat.le_refl _) h3 (fun b hb => (h8.lt b hb).1)
            · refine Any.owes_plain rfl fun ρ wo hs' hb hc' => ?_
              have h5 : ρ (.tmp 5) = .slice (some ⟨g, 0, none⟩) L.length co := hs'.old' 5 (by kernel_rfl)
              exact Any.ok_move (Any.post_val hb rfl h5)
            · refine Any.owes_plain rfl fun ρ wo hs' hb hc' => ?_
              have h8 : ρ (.tmp 8) = .int .i64 (k : Int) := hs'.old' 8 (by kernel_rfl)
              exact Any.ok_move (Any.post_val hb rfl h8)
            · refine Any.owes_plain rfl fun ρ wo hs' hb hc' => ?_
              have h47 : ρ (.tmp 47) = .slice (some ⟨g, 0, none⟩) L.length co := hs'.new' 47 11 (by kernel_rfl)
              have h48 : ρ (.tmp 48) = .int .i64 (k : Int) := hs'.new' 48 12 (by kernel_rfl)
              have q2 := QF.out wo
              go_simp
              exact Any.post_val hb rfl rfl
            · refine Any.owes_plain rfl fun ρ wo hs' hb hc' => ?_
              have h49 : ρ (.tmp 49) = cutV (some ⟨g, 0, none⟩) L.length co k 2 := hs'.new' 49 13 (by kernel_rfl)
              have h8 : wo.ownsRow w8.heap.size 38 2 (ρ (.tmp 46)) (k + 1) (ltCells (L.take k) ++ [.string xn, .int .i64 xc]) := hs'.new' 46 10 (by kernel_rfl)
              have hsrc : Src wo 2 (ρ (.tmp 49)) (L.length - k) (ltCells (L.drop k)) := by rw [h49]; exact HSD.out wo (HBL.out.trans ((below_undrew hb).mono HBL.out.size))
              refine Any.ok_append_own Tryz.underlying23 HI.out.1 HI.out.2.1 HI.out.2.2.1 HI.out.2.2.2 rfl (by decide) h8 hsrc (ltCells_one _) HL2.out.1 HL2.out.2 (show w8.heap.size ≤ wo.heap.size from hb.size) fun v' w' h1 h2 h3 => ?_
              exact Any.post_take hb h1 h2 rfl ⟨_, _, _, rfl⟩ rfl rfl (Nat.le_refl _) h3 (fun b hb => (h8.lt b hb).1)
            · refine Any.owes_plain rfl fun ρ wo hs' hb hc' => ?_
              have h8 : wo.ownsRow w8.heap.size 38 2 (ρ (.tmp 50)) (k + 1 + (L.length - k)) (ltCells (L.take k) ++ [.string xn, .int .i64 xc] ++ ltCells (L.drop k)) := hs'.new' 50 14 (by kernel_rfl)
              exact Any.ok_assign (Any.post_pass hb rfl ⟨_, rfl⟩ rfl rfl h8)
          intro vals w9 hb hk ha
          have o15 : w9.ownsRow w8.heap.size 38 2 (vals 15) (k + 1 + (L.length - k)) (ltCells (L.take k) ++ [.string xn, .int .i64 xc] ++ ltCells (L.drop k)) := hk 15 (by kernel_rfl)
          have HO9 := Lib.hid (ownsRow_base (own_ins HKL.out o15) (Nat.le_trans HBEL.out.size HBL.out.size))
          have HBL := Lib.hid (HBL.out.trans (hb.mono HBL.out.size))
          clear hk ha hb
          simp only [Any.putAll]
          go_frame
          simp only [Nat.zero_add, Nat.reduceAdd]
          generalize vals 15 = v9 at *
          clear o15
          go_wp2_with fail
          go_roundw
          case rel => exact ⟨n + 1, by have := HNL.out; omega, by go_num, by rw [HNX.out, HJI.out]; exact HO9.out, HBE2.out.trans (HBL.out.mono HBE2.out.size)⟩
          case measure => have := HNL.out; (simp [intOf]) <;> omega
      · have tk : decide (k < L.length) = false := decide_eq_false hlk
        have HJI := Lib.hid (insO_at t ⟨xn, xc⟩ L k hk HLO.out fun h => absurd h hlk)
        clear hlk hk
        go_wp2_with fail
        refine Any.region_lit (fun
          | 0 => Any.val (.int .i64 (k : Int))
          | 1 => Any.val (.slice ao L.length co)
          | 2 => Any.val (.int .i64 (L.length : Int))
          | 3 => Any.val (.bool false)
          | 4 => Any.val (.bool false)
          | 5 => Any.idle
          | 6 => Any.idle
          | 7 => Any.idle
          | 8 => Any.idle
          | 9 => Any.idle
          | 10 => Any.idle
          | 11 => Any.idle
          | 12 => Any.idle
          | 13 => Any.idle
          | 14 => Any.idle
          | 15 => Any.val (.bool false)
          | _ => Any.idle) (by kernel_rfl) (by kernel_rfl) (by kernel_rfl) ?_ ?_ ?_
        · intro i _
          match i with
          | 0 => exact Any.lasts_val _
          | 1 => exact Any.lasts_val _
          | 2 => exact Any.lasts_val _
          | 3 => exact Any.lasts_val _
          | 4 => exact Any.lasts_val _
          | 5 => exact Any.lasts_idle
          | 6 => exact Any.lasts_idle
          | 7 => exact Any.lasts_idle
          | 8 => exact Any.lasts_idle
          | 9 => exact Any.lasts_idle
          | 10 => exact Any.lasts_idle
          | 11 => exact Any.lasts_idle
          | 12 => exact Any.lasts_idle
          | 13 => exact Any.lasts_idle
          | 14 => exact Any.lasts_idle
          | 15 => exact Any.lasts_val _
          | n + 16 => exact Any.lasts_idle
        · refine ⟨?_, ?_, ?_, ?_, ?_, ?_, ?_, ?_, ?_, ?_, ?_, ?_, ?_, ?_, ?_, ?_, trivial⟩
          · refine Any.owes_plain rfl fun ρ wo hs' hb hc' => ?_
            have h8 : ρ (.tmp 8) = .int .i64 (k : Int) := hs'.old' 8 (by kernel_rfl)
            exact Any.ok_move (Any.post_val hb rfl h8)
          · refine Any.owes_plain rfl fun ρ wo hs' hb hc' => ?_
            have h5 : ρ (.tmp 5) = .slice ao L.length co := hs'.old' 5 (by kernel_rfl)
            exact Any.ok_move (Any.post_val hb rfl h5)
          · refine Any.owes_plain rfl fun ρ wo hs' hb hc' => ?_
            have h19 : ρ (.tmp 19) = .slice ao L.length co := hs'.new' 19 1 (by kernel_rfl)
            go_simp
            exact Any.post_val hb rfl rfl
          · refine Any.owes_plain rfl fun ρ wo hs' hb hc' => ?_
            have h18 : ρ (.tmp 18) = .int .i64 (k : Int) := hs'.new' 18 0 (by kernel_rfl)
            have h20 : ρ (.tmp 20) = .int .i64 (L.length : Int) := hs'.new' 20 2 (by kernel_rfl)
            go_simp
            exact Any.post_val hb rfl rfl
          · refine Any.owes_plain rfl fun ρ wo hs' hb hc' => ?_
            have h21 : ρ (.tmp 21) = .bool false := hs'.new' 21 3 (by kernel_rfl)
            exact Any.ok_move (Any.post_val hb rfl h21)
          · exact Any.owes_off rfl rfl (by kernel_rfl) rfl (by decide) rfl
          · exact Any.owes_off rfl rfl (by kernel_rfl) rfl (by decide) rfl
          · exact Any.owes_off rfl rfl (by kernel_rfl) rfl (by decide) rfl
          · exact Any.owes_off rfl rfl (by kernel_rfl) rfl (by decide) rfl
          · exact Any.owes_off rfl rfl (by kernel_rfl) rfl (by decide) rfl
          · exact Any.owes_off rfl rfl (by kernel_rfl) rfl (by decide) rfl
          · exact Any.owes_off rfl rfl (by kernel_rfl) rfl (by decide) rfl
          · exact Any.owes_off rfl rfl (by kernel_rfl) rfl (by decide) rfl
          · exact Any.owes_off rfl rfl (by kernel_rfl) rfl (by decide) rfl
          · exact Any.owes_off rfl rfl (by kernel_rfl) rfl (by decide) rfl
          · refine Any.owes_plain rfl fun ρ wo hs' hb hc' => ?_
            have h22 : ρ (.tmp 22) = .bool false := hs'.new' 22 4 (by kernel_rfl)
            go_simp
            exact Any.post_val hb rfl rfl
        intro vals w7 hb hk ha
        have h15 : vals 15 = .bool false := hk 15 (by kernel_rfl)
        have HBL := Lib.hid (HBL.out.trans (hb.mono HBL.out.size))
        clear hk ha hb
        simp only [Any.putAll]
        go_frame
        simp only [Nat.zero_add, Nat.reduceAdd]
        rw [h15]
        clear h15
        go_wp2_with fail
        generalize w7 = w8 at *
        obtain ⟨i0, hi, hz, hsz, hby⟩ := info_parts infoLt
        have hcap := (Sl.take (m := k) HSO.out (by simpa using HKL.out)).1
        have QT : Hid (∀ w, (Instr.slice 23 (.slice ao L.length co) none (some (.int .i64 (k : Int))) none).run Tryz.prog w = .ok (.slice ao k co) w) := Lib.hid fun w => Any.run_slice_to Tryz.underlying23 hi ao _ co k hcap
        have QF : Hid (∀ w, (Instr.slice 23 (.slice ao L.length co) (some (.int .i64 (k : Int))) none none).run Tryz.prog w = .ok (cutV ao L.length co k 2) w) := Lib.hid fun w => run_slice_from Tryz.underlying23 hi hsz ao _ co k HKL.out
        have HSA : Hid (∀ W, Below w5.heap.size w5 W → Src W 2 (.slice ao k co) k (ltCells (L.take k))) := Lib.hid fun W hW => by
          have h1 := (Sl.take (m := k) (HSO.out.below hW (Nat.le_refl _)) (by simpa using HKL.out)).2
          rw [← List.map_take] at h1
          have h2 := src_lots h1
          rwa [List.length_take, Nat.min_eq_left HKL.out] at h2
        have HSD : Hid (∀ W, Below w5.heap.size w5 W → Src W 2 (cutV ao L.length co k 2) (L.length - k) (ltCells (L.drop k))) := Lib.hid fun W hW => by
          have h1 := Sl.drop (k := k) (HSO.out.below hW (Nat.le_refl _)) (by simpa using HKL.out)
          rw [← List.map_drop] at h1
          have h2 := src_lots h1
          rwa [List.length_drop] at h2
        have HL : Hid (k + 1 ≤ maxLen ∧ (k + 1) * 24 ≤ 140737488355328) := Lib.hid (by have := HKL.out; have := HLL.out; simp only [maxLen]; omega)
        have HL2 : Hid (k + 1 + (L.length - k) ≤ maxLen ∧ (k + 1 + (L.length - k)) * 24 ≤ 140737488355328) := Lib.hid (by have := HKL.out; have := HLL.out; simp only [maxLen]; omega)
        clear hi hz hsz hby hcap
        refine Any.region_lit (fun
          | 0 => Any.row w8.heap.size 38 2 (0) ([]) []
          | 1 => Any.val (.slice ao L.length co)
          | 2 => Any.val (.int .i64 (k : Int))
          | 3 => Any.val (.slice ao k co)
          | 4 => Any.row w8.heap.size 38 2 (k) (ltCells (L.take k)) [0]
          | 5 => Any.val (.slice (some ⟨b, off, none⟩) A.length c)
          | 6 => Any.val (.int .i64 (n : Int))
          | 7 => Any.val (.pointer (some ⟨b, off + n * 2, none⟩))
          | 8 => Any.val (.agg #[.string xn, .int .i64 xc])
          | 9 => Any.made 38 1 #[.string xn, .int .i64 xc]
          | 10 => Any.row w8.heap.size 38 2 (k + 1) (ltCells (L.take k) ++ [.string xn, .int .i64 xc]) [4]
          | 11 => Any.val (.slice ao L.length co)
          | 12 => Any.val (.int .i64 (k : Int))
          | 13 => Any.val (cutV ao L.length co k 2)
          | 14 => Any.row w8.heap.size 38 2 (k + 1 + (L.length - k)) (ltCells (L.take k) ++ [.string xn, .int .i64 xc] ++ ltCells (L.drop k)) [10]
          | 15 => Any.row w8.heap.size 38 2 (k + 1 + (L.length - k)) (ltCells (L.take k) ++ [.string xn, .int .i64 xc] ++ ltCells (L.drop k)) [14]
          | _ => Any.idle) (by kernel_rfl) (by kernel_rfl) (by kernel_rfl) ?_ ?_ ?_
        · intro i _
          match i with
          | 0 => exact Any.lasts_row _ _ _ _ _ _
          | 1 => exact Any.lasts_val _
          | 2 => exact Any.lasts_val _
          | 3 => exact Any.lasts_val _
          | 4 => exact Any.lasts_row _ _ _ _ _ _
          | 5 => exact Any.lasts_val _
          | 6 => exact Any.lasts_val _
          | 7 => exact Any.lasts_val _
          | 8 => exact Any.lasts_val _
          | 9 => exact Any.lasts_made _ _ _
          | 10 => exact Any.lasts_row _ _ _ _ _ _
          | 11 => exact Any.lasts_val _
          | 12 => exact Any.lasts_val _
          | 13 => exact Any.lasts_val _
          | 14 => exact Any.lasts_row _ _ _ _ _ _
          | 15 => exact Any.lasts_row _ _ _ _ _ _
          | n + 16 => exact Any.lasts_idle
        · refine ⟨?_, ?_, ?_, ?_, ?_, ?_, ?_, ?_, ?_, ?_, ?_, ?_, ?_, ?_, ?_, ?_, trivial⟩
          · refine Any.owes_plain rfl fun ρ wo hs' hb hc' => ?_
            go_simp
            exact Any.post_new hb (own_empty (show w8.heap.size ≤ wo.heap.size from hb.size)) (one_below _ _) (by intro b hb'; obtain rfl : wo.heap.size = b := Option.some.inj hb'; exact Nat.le_refl _)
          · refine Any.owes_plain rfl fun ρ wo hs' hb hc' => ?_
            have h5 : ρ (.tmp 5) = .slice ao L.length co := hs'.old' 5 (by kernel_rfl)
            exact Any.ok_move (Any.post_val hb rfl h5)
          · refine Any.owes_plain rfl fun ρ wo hs' hb hc' => ?_
            have h8 : ρ (.tmp 8) = .int .i64 (k : Int) := hs'.old' 8 (by kernel_rfl)
            exact Any.ok_move (Any.post_val hb rfl h8)
          · refine Any.owes_plain rfl fun ρ wo hs' hb hc' => ?_
            have h37 : ρ (.tmp 37) = .slice ao L.length co := hs'.new' 37 1 (by kernel_rfl)
            have h38 : ρ (.tmp 38) = .int .i64 (k : Int) := hs'.new' 38 2 (by kernel_rfl)
            have q1 := QT.out wo
            go_simp
            exact Any.post_val hb rfl rfl
          · refine Any.owes_plain rfl fun ρ wo hs' hb hc' => ?_
            have h39 : ρ (.tmp 39) = .slice ao k co := hs'.new' 39 3 (by kernel_rfl)
            have h8 : wo.ownsRow w8.heap.size 38 2 (ρ (.tmp 36)) 0 [] := hs'.new' 36 0 (by kernel_rfl)
            have hsrc : Src wo 2 (ρ (.tmp 39)) k (ltCells (L.take k)) := by rw [h39]; exact HSA.out wo (HBL.out.trans ((below_undrew hb).mono HBL.out.size))
            refine Any.ok_append_own Tryz.underlying23 HI.out.1 HI.out.2.1 HI.out.2.2.1 HI.out.2.2.2 rfl (by decide) h8 hsrc (ltCells_one _) (by have := HL.out.1; omega) (by have := HL.out.2; omega) (show w8.heap.size ≤ wo.heap.size from hb.size) fun v' w' h1 h2 h3 => ?_
            rw [List.nil_append, Nat.zero_add] at h1
            exact Any.post_take hb h1 h2 rfl ⟨_, _, _, rfl⟩ rfl rfl (Nat.le_refl _) h3 (fun b hb => (h8.lt b hb).1)
          · refine Any.owes_plain rfl fun ρ wo hs' hb hc' => ?_
            have h6 : ρ (.tmp 6) = .slice (some ⟨b, off, none⟩) A.length c := hs'.old' 6 (by kernel_rfl)
            exact Any.ok_move (Any.post_val hb rfl h6)
          · refine Any.owes_plain rfl fun ρ wo hs' hb hc' => ?_
            have h7 : ρ (.tmp 7) = .int .i64 (n : Int) := hs'.old' 7 (by kernel_rfl)
            exact Any.ok_move (Any.post_val hb rfl h7)
          · refine Any.owes_plain rfl fun ρ wo hs' hb hc' => ?_
            have h41 : ρ (.tmp 41) = .slice (some ⟨b, off, none⟩) A.length c := hs'.new' 41 5 (by kernel_rfl)
            have h42 : ρ (.tmp 42) = .int .i64 (n : Int) := hs'.new' 42 6 (by kernel_rfl)
            go_simp
            exact Any.post_val hb rfl rfl
          · refine Any.owes_plain rfl fun ρ wo hs' hb hc' => ?_
            have h43 : ρ (.tmp 43) = .pointer (some ⟨b, off + n * 2, none⟩) := hs'.new' 43 7 (by kernel_rfl)
            obtain ⟨c0, c1⟩ := HX.out wo (HBL.out.trans ((below_undrew hb).mono HBL.out.size))
            go_simp
            exact Any.post_val hb rfl rfl
          · refine Any.owes_plain rfl fun ρ wo hs' hb hc' => ?_
            have h44 : ρ (.tmp 44) = .agg #[.string xn, .int .i64 xc] := hs'.new' 44 8 (by kernel_rfl)
            go_simp
            exact Any.post_new hb ⟨_, rfl, heap_alloc_new _ _⟩ (one_below _ _) (by intro b hb'; obtain rfl : wo.heap.size = b := Option.some.inj hb'; exact Nat.le_refl _)
          · refine Any.owes_plain rfl fun ρ wo hs' hb hc' => ?_
            have h8 : wo.ownsRow w8.heap.size 38 2 (ρ (.tmp 40)) (k) (ltCells (L.take k)) := hs'.new' 40 4 (by kernel_rfl)
            obtain ⟨g, hg, hgb⟩ := hs'.new' 45 9 (by kernel_rfl)
            have hsrc : Src wo 2 (ρ (.tmp 45)) 1 [.string xn, .int .i64 xc] := by rw [hg]; exact src_block hgb rfl
            refine Any.ok_append_own Tryz.underlying23 HI.out.1 HI.out.2.1 HI.out.2.2.1 HI.out.2.2.2 rfl (by decide) h8 hsrc (lt_one xn xc) HL.out.1 HL.out.2 (show w8.heap.size ≤ wo.heap.size from hb.size) fun v' w' h1 h2 h3 => ?_
            exact Any.post_take hb h1 h2 rfl ⟨_, _, _, rfl⟩ rfl rfl (Nat.le_refl _) h3 (fun b hb => (h8.lt b hb).1)
          · refine Any.owes_plain rfl fun ρ wo hs' hb hc' => ?_
            have h5 : ρ (.tmp 5) = .slice ao L.length co := hs'.old' 5 (by kernel_rfl)
            exact Any.ok_move (Any.post_val hb rfl h5)
          · refine Any.owes_plain rfl fun ρ wo hs' hb hc' => ?_
            have h8 : ρ (.tmp 8) = .int .i64 (k : Int) := hs'.old' 8 (by kernel_rfl)
            exact Any.ok_move (Any.post_val hb rfl h8)
          · refine Any.owes_plain rfl fun ρ wo hs' hb hc' => ?_
            have h47 : ρ (.tmp 47) = .slice ao L.length co := hs'.new' 47 11 (by kernel_rfl)
            have h48 : ρ (.tmp 48) = .int .i64 (k : Int) := hs'.new' 48 12 (by kernel_rfl)
            have q2 := QF.out wo
            go_simp
            exact Any.post_val hb rfl rfl
          · refine Any.owes_plain rfl fun ρ wo hs' hb hc' => ?_
            have h49 : ρ (.tmp 49) = cutV ao L.length co k 2 := hs'.new' 49 13 (by kernel_rfl)
            have h8 : wo.ownsRow w8.heap.size 38 2 (ρ (.tmp 46)) (k + 1) (ltCells (L.take k) ++ [.string xn, .int .i64 xc]) := hs'.new' 46 10 (by kernel_rfl)
            have hsrc : Src wo 2 (ρ (.tmp 49)) (L.length - k) (ltCells (L.drop k)) := by rw [h49]; exact HSD.out wo (HBL.out.trans ((below_undrew hb).mono HBL.out.size))
            refine Any.ok_append_own Tryz.underlying23 HI.out.1 HI.out.2.1 HI.out.2.2.1 HI.out.2.2.2 rfl (by decide) h8 hsrc (ltCells_one _) HL2.out.1 HL2.out.2 (show w8.heap.size ≤ wo.heap.size from hb.size) fun v' w' h1 h2 h3 => ?_
            exact Any.post_take hb h1 h2 rfl ⟨_, _, _, rfl⟩ rfl rfl (Nat.le_refl _) h3 (fun b hb => (h8.lt b hb).1)
          · refine Any.owes_plain rfl fun ρ wo hs' hb hc' => ?_
            have h8 : wo.ownsRow w8.heap.size 38 2 (ρ (.tmp 50)) (k + 1 + (L.length - k)) (ltCells (L.take k) ++ [.string xn, .int .i64 xc] ++ ltCells (L.drop k)) := hs'.new' 50 14 (by kernel_rfl)
            exact Any.ok_assign (Any.post_pass hb rfl ⟨_, rfl⟩ rfl rfl h8)
        intro vals w9 hb hk ha
        have o15 : w9.ownsRow w8.heap.size 38 2 (vals 15) (k + 1 + (L.length - k)) (ltCells (L.take k) ++ [.string xn, .int .i64 xc] ++ ltCells (L.drop k)) := hk 15 (by kernel_rfl)
        have HO9 := Lib.hid (ownsRow_base (own_ins HKL.out o15) (Nat.le_trans HBEL.out.size HBL.out.size))
        have HBL := Lib.hid (HBL.out.trans (hb.mono HBL.out.size))
        clear hk ha hb
        simp only [Any.putAll]
        go_frame
        simp only [Nat.zero_add, Nat.reduceAdd]
        generalize vals 15 = v9 at *
        clear o15
        go_wp2_with fail
        go_roundw
        case rel => exact ⟨n + 1, by have := HNL.out; omega, by go_num, by rw [HNX.out, HJI.out]; exact HO9.out, HBE2.out.trans (HBL.out.mono HBE2.out.size)⟩
        case measure => have := HNL.out; (simp [intOf]) <;> omega
end Go.Proofs.YtgnfdplphpejaaaGreatDoor.Sc
