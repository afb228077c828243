/- Release, ahead: by the reference. -/
import Derived.Test.YtnlfhncbnfmccaaRefP26
namespace Go.Proofs.Ytnlfhncbnfmccaa.Sc
open Go Go.RowKit Go.ChangeShapes Go.WideShapes Go.ChangeAt
set_option maxRecDepth 100000

theorem filter_next {l : List Pg} {k : Nat} (h : k < l.length) (f : Pg → Bool) : (l.take (k + 1)).filter f = if f l[k] = true then (l.take k).filter f ++ [l[k]] else (l.take k).filter f := by
  rw [List.take_succ_eq_append_getElem h, List.filter_append]
  by_cases hf : f l[k] = true
  · rw [if_pos hf]; simp [hf]
  · rw [if_neg hf]; simp [hf]
set_option maxHeartbeats 8000000 in
theorem refRelease_any (l : List Pg) (t cr : ByteArray) (v : Value) (w : World) (F : Nat → Prop) (hs : Sl w 6 v (l.map Pg.row)) (hoff : Off F v ∨ l = []) (hlt : ∀ k, F k → k < w.heap.size) (hl : l.length ≤ 4000) :
    Calls Try.prog 39 #[v, .string t, .string cr] w (LiP w F (relL l t cr) (relC l t cr)) := by
  obtain ⟨i0, hi, hz, hsz, hby⟩ := info_parts infoPg
  have HI := Lib.hid (And.intro hi (And.intro hz (And.intro hsz hby)))
  clear hi hz hsz hby
  obtain ⟨a, c, rfl⟩ : ∃ a c, v = .slice a l.length c := by simpa using hs.shape
  have HS := Lib.hid hs
  have HOFF := Lib.hid hoff
  have HLT := Lib.hid hlt
  have HLN := Lib.hid hl
  have hll : l.length ≤ 9223372036854775807 := by omega
  have HRE : Hid (relL l t cr = l.filter fun x => !isOf t cr x) := Lib.hid rfl
  have HRC : Hid (relC l t cr = if (l.filter fun x => !isOf t cr x).length = l.length then 4 else 0) := Lib.hid rfl
  clear hs hl hoff hlt
  go_enter Try.func39, Try.ntmps39
  go_wp2_with fail
  go_loopw [8, 9] (fun o i wr => ∃ k : Nat, k ≤ l.length ∧ i = .int .i64 k ∧ wr.ownsRow w.heap.size 37 6 o ((l.take k).filter fun x => !isOf t cr x).length (pgCells ((l.take k).filter fun x => !isOf t cr x)) ∧ Below w.heap.size w wr) (fun _ i _ => l.length - (intOf i).toNat)
  case atStart => exact ⟨0, Nat.zero_le _, rfl, own_empty (Nat.le_refl _), one_below _ _⟩
  case round =>
    obtain ⟨k, hk, rfl, hown, hbel⟩ := hrel
    have HOWN := Lib.hid hown
    have HBEL := Lib.hid hbel
    by_cases hlt : k < l.length
    · obtain ⟨b, off, rfl, hb, hp⟩ := pg_at HS.out hlt
      obtain ⟨d0, d1, d2, d3, d4, d5⟩ := hp.below hb hbel
      have HFS := Lib.hid (filter_next hlt fun x => !isOf t cr x)
      have HLE : Hid (((l.take k).filter fun x => !isOf t cr x).length ≤ 4000) := Lib.hid (by
        have h1 := List.length_filter_le (fun x => !isOf t cr x) (l.take k)
        have h2 := List.length_take_le k l
        have := HLN.out
        omega)
      have tk : ((k : Nat) : Int) < (l.length : Int) := by omega
      have hf : (!isOf t cr l[k]) = !(decide (l[k].thing = t) && decide (l[k].cred = cr)) := rfl
      generalize (l.take k).filter (fun x => !isOf t cr x) = D at *
      generalize l[k] = x at *
      have HPO := Lib.hid (pg_one x)
      obtain ⟨xt, xd, xc, xy, xa, xh⟩ := x
      simp only [Pg.cells] at d0 d1 d2 d3 d4 d5 HPO hf
      have s1 := str_beq xt t
      have s2 := str_beq xc cr
      generalize decide (xt = t) = q1 at *
      generalize decide (xc = cr) = q2 at *
      have HL : Hid (D.length + 1 ≤ maxLen ∧ (D.length + 1) * 72 ≤ 140737488355328 ∧ w.heap.size ≤ wr.heap.size) := Lib.hid (by have := HLE.out; have := hbel.size; simp only [maxLen]; omega)
      clear hb hp hbel hown
      cases q1
      · have HF := Lib.hid (show (!isOf t cr ⟨xt, xd, xc, xy, xa, xh⟩) = true by rw [hf]; rfl)
        clear hf s2
        go_wp2_with (first
          | (((with_reducible refine Any.wpl_push ?_ ?_ ?_ Try.underlying26 HI.out.1 HI.out.2.1 HI.out.2.2.1 HI.out.2.2.2 ?_ (by decide) ?_ (HPO.out) (HOWN.out) HL.out.1 HL.out.2.1 HL.out.2.2 ?_); rfl; rfl; rfl; rfl; rfl; intro v3 w3 hown3 hgrow3 hwho3); have HO3 := Lib.hid hown3; have HB3 := Lib.hid (HBEL.out.grown hgrow3 HBEL.out.size (fun k hk => (HOWN.out.lt k hk).1)); clear hown3 hgrow3 hwho3)
          | fail)
        go_roundw
        case rel => exact ⟨k + 1, by omega, by go_num, by
          have := HO3.out
          rw [HFS.out, if_pos HF.out]
          simpa [pgCells, Pg.row, Pg.cells] using this, HB3.out⟩
        case measure => (simp [intOf]) <;> omega
      · cases q2
        · have HF := Lib.hid (show (!isOf t cr ⟨xt, xd, xc, xy, xa, xh⟩) = true by rw [hf]; rfl)
          clear hf
          go_wp2_with (first
            | (((with_reducible refine Any.wpl_push ?_ ?_ ?_ Try.underlying26 HI.out.1 HI.out.2.1 HI.out.2.2.1 HI.out.2.2.2 ?_ (by decide) ?_ (HPO.out) (HOWN.out) HL.out.1 HL.out.2.1 HL.out.2.2 ?_); rfl; rfl; rfl; rfl; rfl; intro v3 w3 hown3 hgrow3 hwho3); have HO3 := Lib.hid hown3; have HB3 := Lib.hid (HBEL.out.grown hgrow3 HBEL.out.size (fun k hk => (HOWN.out.lt k hk).1)); clear hown3 hgrow3 hwho3)
            | fail)
          go_roundw
          case rel => exact ⟨k + 1, by omega, by go_num, by
            have := HO3.out
            rw [HFS.out, if_pos HF.out]
            simpa [pgCells, Pg.row, Pg.cells] using this, HB3.out⟩
          case measure => (simp [intOf]) <;> omega
        · have HF := Lib.hid (show ¬ (!isOf t cr ⟨xt, xd, xc, xy, xa, xh⟩) = true by rw [hf]; decide)
          clear hf
          go_wp2_with fail
          go_roundw
          case rel => exact ⟨k + 1, by omega, by go_num, by rw [HFS.out, if_neg HF.out]; exact HOWN.out, HBEL.out⟩
          case measure => (simp [intOf]) <;> omega
    · rw [List.take_of_length_le (by omega)] at hown
      have HO := Lib.hid hown
      obtain ⟨ak, ck, rfl⟩ : ∃ a c, u8 = .slice a (l.filter fun x => !isOf t cr x).length c := by simpa using (own_pgs HO.out rfl).shape
      have hfl := List.length_filter_le (fun x => !isOf t cr x) l
      have HFE : Hid ((l.filter fun x => !isOf t cr x).length = l.length → (l.filter fun x => !isOf t cr x) = l) := Lib.hid fun h => List.filter_eq_self.2 (List.length_filter_eq_length_iff.1 h)
      generalize l.filter (fun x => !isOf t cr x) = D at *
      clear HOWN hown hbel hk
      by_cases he : D.length = l.length
      · have HDL := Lib.hid (HFE.out he)
        have HRC := Lib.hid (HRC.out.trans (if_pos he))
        rw [he]
        have t1 : ((l.length : Int) == (l.length : Int)) = true := by simp
        clear he hfl
        go_wp2_with fail
        go_ret2
        exact ⟨_, by rw [HRC.out]; rfl, by rw [HRE.out, HDL.out]; exact HS.out.below HBEL.out (Nat.le_refl _), by rw [HRE.out, HDL.out]; exact HOFF.out, HBEL.out⟩
      · have HRC := Lib.hid (HRC.out.trans (if_neg he))
        have t1 : ((D.length : Int) == (l.length : Int)) = false := by simp; omega
        have t2 : (D.length == l.length) = false := by simp [he]
        clear he hfl
        go_wp2_with fail
        go_ret2
        exact ⟨_, by rw [HRC.out]; rfl, by rw [HRE.out]; exact own_pgs HO.out rfl, .inl fun b hb hx => by have h1 := (HO.out.lt b hb).1; have h2 := HLT.out b hx; omega, HBEL.out⟩
def aheadP (a b : Pg) : Bool := if a.held || b.held then a.held else decide (a.day ≤ b.day)
set_option maxHeartbeats 2000000 in
theorem ahead_any (x y : Pg) (W : World) : Calls Try.prog 53 #[.agg x.cells, .agg y.cells] W (RetB W (aheadP x y)) := by
  have y2 := pgBox_of (blk (one_below (W.alloc (.cells x.cells 37)) (.cells y.cells 37)) (lt_blk (heap_alloc_new W _)) (heap_alloc_new W (.cells x.cells 37)))
  have y3 : PgBox ((W.alloc (.cells x.cells 37)).alloc (.cells y.cells 37)) (W.heap.size + 1) y := by
    have := heap_alloc_new (W.alloc (.cells x.cells 37)) (.cells y.cells 37)
    exact pgBox_of (by simpa using this)
  have HG : Hid (Below W.heap.size W ((W.alloc (.cells x.cells 37)).alloc (.cells y.cells 37))) := Lib.hid ((one_below W _).alloc (one_below W _).size _)
  obtain ⟨xt, xd, xc, xy, xa, xh⟩ := x
  obtain ⟨yt, yd, yc, yy, ya, yh⟩ := y
  obtain ⟨-, -, -, a3, -, a5⟩ := y2
  obtain ⟨-, -, -, b3, -, b5⟩ := y3
  simp only [Pg.cells] at a3 a5 b3 b5 HG ⊢
  cases xh <;> cases yh
  all_goals
    go_enter Try.func53, Try.ntmps53
    go_wp2_with fail
    go_ret
    exact ⟨rfl, HG.out⟩
end Go.Proofs.Ytnlfhncbnfmccaa.Sc
