/- Rank: by the reference. -/
import Derived.Test.YtnlfhncbnfmccaaRefR26
import Derived.Test.YtnlfhncbnfmccaaIns26
import Derived.Test.YtnlfhncbnfmccaaOwnC
import Derived.Test.YtnlfhncbnfmccaaCut
import Derived.Test.YtnlfhncbnfmccaaCat
namespace Go.Proofs.Ytnlfhncbnfmccaa.Sc
open Go Go.RowKit Go.ChangeShapes Go.WideShapes Go.ChangeAt
set_option maxRecDepth 100000

theorem rIns_snoc (l : List Pg) (a x : Pg) : rIns (l ++ [a]) x = if less x a = true then rIns l x ++ [a] else l ++ [a] ++ [x] := by
  rw [← insE_is, insE_snoc, insE_is, lt_less]
theorem rIns_at (x : Pg) : ∀ (n : Nat) (D : List Pg) (k : Nat), D.length = n → k ≤ D.length → (∀ j (h : j < D.length), k ≤ j → less x D[j] = true) → (∀ h : 0 < k ∧ k ≤ D.length, less x (D[k - 1]'(by omega)) = false) → rIns D x = D.take k ++ [x] ++ D.drop k
  | 0, D, k, hn, hk, _, _ => by
    obtain rfl := List.length_eq_zero_iff.1 hn
    obtain rfl : k = 0 := by simpa using hk
    rfl
  | n + 1, D, k, hn, hk, h1, h2 => by
    obtain ⟨l, a, rfl⟩ : ∃ l a, D = l ++ [a] := ⟨D.dropLast, D.getLast (by intro e; rw [e] at hn; cases hn), (List.dropLast_concat_getLast _).symm⟩
    have hl : l.length = n := by simpa using hn
    rw [rIns_snoc]
    by_cases hkl : k ≤ l.length
    · have ha : less x a = true := by
        have := h1 l.length (by simp) hkl
        simpa using this
      rw [if_pos ha, rIns_at x n l k hl hkl (fun j hj hjk => by
        have := h1 j (by simp; omega) hjk
        rwa [List.getElem_append_left hj] at this) (fun h => by
        have := h2 ⟨h.1, by simp; omega⟩
        rwa [List.getElem_append_left (by omega)] at this)]
      rw [List.take_append_of_le_length hkl, List.drop_append_of_le_length hkl]
      simp
    · have hke : k = l.length + 1 := by simp at hk; omega
      have ha : less x a = false := by
        have := h2 ⟨by omega, hk⟩
        simpa [hke] using this
      rw [if_neg (by rw [ha]; exact Bool.false_ne_true)]
      rw [List.take_of_length_le (by simp; omega), List.drop_of_length_le (by simp; omega), List.append_nil]
theorem less_ahead {a x : Pg} (h : ¬ (a.held = true ∧ x.held = true)) : less x a = !aheadP a x := by
  unfold less aheadP
  cases ha : a.held <;> cases hx : x.held
  · simp
    by_cases hd : x.day < a.day
    · simp [hd]
    · simp [hd]; omega
  · simp
  · simp
  · exact absurd ⟨ha, hx⟩ h
theorem own_insP {w : World} {B : Nat} {e : TypeId} {v : Value} {D : List Pg} {x : Pg} {k : Nat} (hk : k ≤ D.length) (h : w.ownsRow B e 6 v (k + 1 + (D.length - k)) (pgCells (D.take k) ++ x.cells.toList ++ pgCells (D.drop k))) :
    w.ownsRow B e 6 v (D.take k ++ [x] ++ D.drop k).length (pgCells (D.take k ++ [x] ++ D.drop k)) := by
  have e1 : (D.take k ++ [x] ++ D.drop k).length = k + 1 + (D.length - k) := by
    simp [Nat.min_eq_left hk]
    omega
  rw [e1, pgCells_append, pgCells_append]
  simpa [pgCells, Pg.row] using h
theorem ofT_next {l : List Pg} {t : ByteArray} {n : Nat} (h : n < l.length) : ofT (l.take (n + 1)) t = if l[n].thing = t then ofT (l.take n) t ++ [l[n]] else ofT (l.take n) t := by
  rw [List.take_succ_eq_append_getElem h, ofT_append, ofT_one]
  split
  · rfl
  · rw [List.append_nil]
set_option maxHeartbeats 16000000 in
theorem refRank_any (l : List Pg) (t : ByteArray) (vl : Value) (w : World) (hs : Sl w 6 vl (l.map Pg.row)) (hl : l.length ≤ 4000) (hok : (ofT l t).Pairwise fun x y => ¬ (x.held = true ∧ y.held = true)) :
    Calls Try.prog 37 #[vl, .string t] w (RetRow w 37 6 (rankOf (ofT l t)).length (pgCells (rankOf (ofT l t)))) := by
  obtain ⟨a, c, rfl⟩ : ∃ a c, vl = .slice a l.length c := by simpa using hs.shape
  have HS := Lib.hid hs
  have HLN := Lib.hid hl
  have HOK := Lib.hid hok
  obtain ⟨i0, hi, hz, hsz, hby⟩ := info_parts infoPg
  have HI := Lib.hid (And.intro hi (And.intro hz (And.intro hsz hby)))
  clear hi hz hsz hby hs hok
  go_enter Try.func37, Try.ntmps37
  go_wp2_with fail
  go_loopw [5, 6, 7, 8] (fun o i _ _ wr => ∃ n : Nat, n ≤ l.length ∧ i = .int .i64 n ∧ wr.ownsRow w.heap.size 37 6 o (rankOf (ofT (l.take n) t)).length (pgCells (rankOf (ofT (l.take n) t))) ∧ Below w.heap.size w wr) (fun _ i _ _ _ => l.length - (intOf i).toNat)
  case atStart => exact ⟨0, Nat.zero_le _, rfl, own_empty (Nat.le_refl _), one_below _ _⟩
  case round =>
    obtain ⟨n, hn, rfl, hown, hbel⟩ := hrel
    have HOWN := Lib.hid hown
    have HBEL := Lib.hid hbel
    by_cases hlt : n < l.length
    · obtain ⟨b, off, rfl, hb, hp⟩ := pg_at HS.out hlt
      have d0 := (hp.below hb hbel).1
      have HX0 := Lib.hid (fun W (hW : Below w.heap.size w W) => hp.below hb hW)
      have HNX0 := Lib.hid (ofT_next (t := t) hlt)
      have HHD : Hid (l[n].thing = t → ∀ a ∈ rankOf (ofT (l.take n) t), ¬ (a.held = true ∧ l[n].held = true)) := Lib.hid fun ht a ha => by
        have h1 := (rankOf_perm _).mem_iff.1 ha
        have h2 : ofT l t = ofT (l.take (n + 1)) t ++ ofT (l.drop (n + 1)) t := by rw [← ofT_append, List.take_append_drop]
        rw [ofT_next hlt, if_pos ht] at h2
        have h3 := HOK.out
        rw [h2, List.append_assoc, List.pairwise_append] at h3
        exact h3.2.2 a h1 l[n] (by simp)
      have HLL : Hid ((rankOf (ofT (l.take n) t)).length ≤ 4000) := Lib.hid (by
        have h1 : (ofT (l.take n) t).length ≤ (l.take n).length := List.length_filter_le _ _
        rw [(rankOf_perm _).length_eq]
        have h2 := List.length_take_le n l
        have := HLN.out
        omega)
      have HNX1 : Hid (l[n].thing = t → rankOf (ofT (l.take (n + 1)) t) = rIns (rankOf (ofT (l.take n) t)) l[n]) := Lib.hid fun ht => by rw [ofT_next hlt, if_pos ht, rankOf_snoc]
      have HNX2 : Hid (¬ l[n].thing = t → rankOf (ofT (l.take (n + 1)) t) = rankOf (ofT (l.take n) t)) := Lib.hid fun ht => by rw [ofT_next hlt, if_neg ht]
      have HNL := Lib.hid hlt
      have tn : ((n : Nat) : Int) < (l.length : Int) := by omega
      obtain ⟨ao, co, rfl⟩ : ∃ a c, u5 = .slice a (rankOf (ofT (l.take n) t)).length c := by simpa using (own_pgs HOWN.out rfl).shape
      generalize l[n] = x at *
      generalize rankOf (ofT (l.take n) t) = D at *
      have HPO := Lib.hid (pg_one x)
      obtain ⟨xt, xd, xc, xy, xa, xh⟩ := x
      have s1 := str_beq xt t
      simp only [Pg.cells, PgAt] at d0 HX0 HPO HHD HNX1 HNX2
      clear hb hp hown hbel hn HNX0
      by_cases hxt : xt = t
      rotate_left
      · rw [decide_eq_false hxt] at s1
        have HNX := Lib.hid (HNX2.out hxt)
        clear hxt
        go_wp2_with fail
        go_roundw
        case rel => exact ⟨n + 1, by omega, by go_num, by rw [HNX.out]; exact HOWN.out, HBEL.out⟩
        case measure => (simp [intOf]) <;> omega
      · rw [decide_eq_true hxt] at s1
        have HNX := Lib.hid (HNX1.out hxt)
        have HHD := Lib.hid (HHD.out hxt)
        have hdl := HLL.out
        clear hxt
        go_wp2_with fail
        clear d0 s1
        generalize wr = w5 at *
        have HX := Lib.hid (fun W (hW : Below w5.heap.size w5 W) => HX0.out W (HBEL.out.trans (hW.mono HBEL.out.size)))
        go_loopw [7] (fun i wr => ∃ k : Nat, k ≤ D.length ∧ i = .int .i64 k ∧ (∀ j (h : j < D.length), k ≤ j → less ⟨xt, xd, xc, xy, xa, xh⟩ D[j] = true) ∧ Below w5.heap.size w5 wr) (fun i _ => (intOf i).toNat)
        case atStart => exact ⟨D.length, Nat.le_refl _, rfl, fun j h1 h2 => absurd h1 (by omega), Below.refl _ _⟩
        case round =>
          obtain ⟨k, hk, rfl, hlo, hin⟩ := hrel
          have HLO := Lib.hid hlo
          have HBL := Lib.hid hin
          have HKL := Lib.hid hk
          clear hlo hin
          rcases k with - | m
          · have HJI := Lib.hid (rIns_at ⟨xt, xd, xc, xy, xa, xh⟩ D.length D 0 rfl (Nat.zero_le _) HLO.out (fun h => absurd h.1 (by omega)))
            have t0 : ((0 : Nat) : Int) = 0 := rfl
            rw [t0]
            clear t0
            go_wp2_with fail
            refine Any.region_lit (fun
              | 0 => Any.val (.int .i64 0)
              | 1 => Any.val (.bool false)
              | 2 => Any.val (.bool false)
              | 3 => Any.idle
              | 4 => Any.idle
              | 5 => Any.idle
              | 6 => Any.idle
              | 7 => Any.idle
              | 8 => Any.idle
              | 9 => Any.idle
              | 10 => Any.idle
              | 11 => Any.idle
              | 12 => Any.idle
              | 13 => Any.idle
              | 14 => Any.val (.bool false)
              | _ => Any.idle) (by kernel_rfl) (by kernel_rfl) (by kernel_rfl) ?_ ?_ ?_
            · intro i _
              match i with
              | 0 => exact Any.lasts_val _
              | 1 => exact Any.lasts_val _
              | 2 => exact Any.lasts_val _
              | 3 => exact Any.lasts_idle
              | 4 => exact Any.lasts_idle
              | 5 => exact Any.lasts_idle
              | 6 => exact Any.lasts_idle
              | 7 => exact Any.lasts_idle
              | 8 => exact Any.lasts_idle
              | 9 => exact Any.lasts_idle
              | 10 => exact Any.lasts_idle
              | 11 => exact Any.lasts_idle
              | 12 => exact Any.lasts_idle
              | 13 => exact Any.lasts_idle
              | 14 => exact Any.lasts_val _
              | n + 15 => exact Any.lasts_idle
            · refine ⟨?_, ?_, ?_, ?_, ?_, ?_, ?_, ?_, ?_, ?_, ?_, ?_, ?_, ?_, ?_, trivial⟩
              · refine Any.owes_plain rfl fun ρ wo hs' hb hc' => ?_
                have h7 : ρ (.tmp 7) = .int .i64 0 := hs'.old' 7 (by kernel_rfl)
                exact Any.ok_move (Any.post_val hb rfl h7)
              · refine Any.owes_plain rfl fun ρ wo hs' hb hc' => ?_
                have h25 : ρ (.tmp 25) = .int .i64 0 := hs'.new' 25 0 (by kernel_rfl)
                go_simp
                exact Any.post_val hb rfl rfl
              · refine Any.owes_plain rfl fun ρ wo hs' hb hc' => ?_
                have h26 : ρ (.tmp 26) = .bool false := hs'.new' 26 1 (by kernel_rfl)
                exact Any.ok_move (Any.post_val hb rfl h26)
              · exact Any.owes_off rfl rfl (by kernel_rfl) rfl (by decide) rfl
              · exact Any.owes_off rfl rfl (by kernel_rfl) rfl (by decide) rfl
              · exact Any.owes_off rfl rfl (by kernel_rfl) rfl (by decide) rfl
              · exact Any.owes_off rfl rfl (by kernel_rfl) rfl (by decide) rfl
              · exact Any.owes_off rfl rfl (by kernel_rfl) rfl (by decide) rfl
              · exact Any.owes_off rfl rfl (by kernel_rfl) rfl (by decide) rfl
              · exact Any.owes_off rfl rfl (by kernel_rfl) rfl (by decide) rfl
              · exact Any.owes_off rfl rfl (by kernel_rfl) rfl (by decide) rfl
              · exact Any.owes_off rfl rfl (by kernel_rfl) rfl (by decide) rfl
              · exact Any.owes_off rfl rfl (by kernel_rfl) rfl (by decide) rfl
              · exact Any.owes_off rfl rfl (by kernel_rfl) rfl (by decide) rfl
              · refine Any.owes_plain rfl fun ρ wo hs' hb hc' => ?_
                have h27 : ρ (.tmp 27) = .bool false := hs'.new' 27 2 (by kernel_rfl)
                go_simp
                exact Any.post_val hb rfl rfl
            intro vals w7 hb hk ha
            have h14 : vals 14 = .bool false := hk 14 (by kernel_rfl)
            have HBL := Lib.hid (HBL.out.trans (hb.mono HBL.out.size))
            clear hk ha hb
            simp only [Any.putAll]
            go_frame
            simp only [Nat.zero_add, Nat.reduceAdd]
            rw [h14]
            clear h14
            go_wp2_with fail
            generalize w7 = w8 at *
            have HSO := Lib.hid (own_pgs HOWN.out rfl)
            obtain ⟨i0, hi, hz, hsz, hby⟩ := info_parts infoPg
            have hcap := (Sl.take (m := 0) HSO.out (by simp)).1
            have QT : Hid (∀ w, (Instr.slice 26 (.slice ao D.length co) none (some (.int .i64 (0 : Int))) none).run Try.prog w = .ok (.slice ao 0 co) w) := Lib.hid fun w => Any.run_slice_to Try.underlying26 hi ao _ co 0 hcap
            have QF : Hid (∀ w, (Instr.slice 26 (.slice ao D.length co) (some (.int .i64 (0 : Int))) none none).run Try.prog w = .ok (cutV ao D.length co 0 6) w) := Lib.hid fun w => run_slice_from Try.underlying26 hi hsz ao _ co 0 HKL.out
            have HSA : Hid (∀ W, Below w5.heap.size w5 W → Src W 6 (.slice ao 0 co) 0 (pgCells (D.take 0))) := Lib.hid fun W hW => by
              have h1 := (Sl.take (m := 0) (HSO.out.below hW (Nat.le_refl _)) (by simp)).2
              rw [← List.map_take] at h1
              have h2 := src_pgs h1
              rwa [List.length_take, Nat.min_eq_left HKL.out] at h2
            have HSD : Hid (∀ W, Below w5.heap.size w5 W → Src W 6 (cutV ao D.length co 0 6) (D.length - 0) (pgCells (D.drop 0))) := Lib.hid fun W hW => by
              have h1 := Sl.drop (k := 0) (HSO.out.below hW (Nat.le_refl _)) (by simp)
              rw [← List.map_drop] at h1
              have h2 := src_pgs h1
              rwa [List.length_drop] at h2
            have HL : Hid (0 + 1 ≤ maxLen ∧ (0 + 1) * 72 ≤ 140737488355328) := Lib.hid (by have := HKL.out; have := HLL.out; simp only [maxLen]; omega)
            have HL2 : Hid (0 + 1 + (D.length - 0) ≤ maxLen ∧ (0 + 1 + (D.length - 0)) * 72 ≤ 140737488355328) := Lib.hid (by have := HKL.out; have := HLL.out; simp only [maxLen]; omega)
            clear hi hz hsz hby hcap
            refine Any.region_lit (fun
              | 0 => Any.row w8.heap.size 37 6 (0) ([]) []
              | 1 => Any.val (.slice ao D.length co)
              | 2 => Any.val (.int .i64 (0 : Int))
              | 3 => Any.val (.slice ao 0 co)
              | 4 => Any.row w8.heap.size 37 6 (0) (pgCells (D.take 0)) [0]
              | 5 => Any.val (.slice (some ⟨b, off, none⟩) l.length c)
              | 6 => Any.val (.int .i64 (n : Int))
              | 7 => Any.val (.pointer (some ⟨b, off + n * 6, none⟩))
              | 8 => Any.val (.agg #[.string xt, .string xd, .string xc, .int .i64 xy, .int .i64 xa, .bool xh])
              | 9 => Any.made 37 1 #[.string xt, .string xd, .string xc, .int .i64 xy, .int .i64 xa, .bool xh]
              | 10 => Any.row w8.heap.size 37 6 (0 + 1) (pgCells (D.take 0) ++ [.string xt, .string xd, .string xc, .int .i64 xy, .int .i64 xa, .bool xh]) [4]
              | 11 => Any.row w8.heap.size 37 6 (0 + 1) (pgCells (D.take 0) ++ [.string xt, .string xd, .string xc, .int .i64 xy, .int .i64 xa, .bool xh]) [10]
              | _ => Any.idle) (by kernel_rfl) (by kernel_rfl) (by kernel_rfl) ?_ ?_ ?_
            · intro i _
              match i with
              | 0 => exact Any.lasts_row _ _ _ _ _ _
              | 1 => exact Any.lasts_val _
              | 2 => exact Any.lasts_val _
              | 3 => exact Any.lasts_val _
              | 4 => exact Any.lasts_row _ _ _ _ _ _
              | 5 => exact Any.lasts_val _
              | 6 => exact Any.lasts_val _
              | 7 => exact Any.lasts_val _
              | 8 => exact Any.lasts_val _
              | 9 => exact Any.lasts_made _ _ _
              | 10 => exact Any.lasts_row _ _ _ _ _ _
              | 11 => exact Any.lasts_row _ _ _ _ _ _
              | n + 12 => exact Any.lasts_idle
            · refine ⟨?_, ?_, ?_, ?_, ?_, ?_, ?_, ?_, ?_, ?_, ?_, ?_, trivial⟩
              · refine Any.owes_plain rfl fun ρ wo hs' hb hc' => ?_
                go_simp
                exact Any.post_new hb (own_empty (show w8.heap.size ≤ wo.heap.size from hb.size)) (one_below _ _) (by intro b hb'; obtain rfl : wo.heap.size = b := Option.some.inj hb'; exact Nat.le_refl _)
              · refine Any.owes_plain rfl fun ρ wo hs' hb hc' => ?_
                have h5 : ρ (.tmp 5) = .slice ao D.length co := hs'.old' 5 (by kernel_rfl)
                exact Any.ok_move (Any.post_val hb rfl h5)
              · refine Any.owes_plain rfl fun ρ wo hs' hb hc' => ?_
                have h7 : ρ (.tmp 7) = .int .i64 (0 : Int) := hs'.old' 7 (by kernel_rfl)
                exact Any.ok_move (Any.post_val hb rfl h7)
              · refine Any.owes_plain rfl fun ρ wo hs' hb hc' => ?_
                have h43 : ρ (.tmp 43) = .slice ao D.length co := hs'.new' 43 1 (by kernel_rfl)
                have h44 : ρ (.tmp 44) = .int .i64 (0 : Int) := hs'.new' 44 2 (by kernel_rfl)
                have q1 := QT.out wo
                go_simp
                exact Any.post_val hb rfl rfl
              · refine Any.owes_plain rfl fun ρ wo hs' hb hc' => ?_
                have h45 : ρ (.tmp 45) = .slice ao 0 co := hs'.new' 45 3 (by kernel_rfl)
                have h8 : wo.ownsRow w8.heap.size 37 6 (ρ (.tmp 42)) 0 [] := hs'.new' 42 0 (by kernel_rfl)
                have hsrc : Src wo 6 (ρ (.tmp 45)) 0 (pgCells (D.take 0)) := by rw [h45]; exact HSA.out wo (HBL.out.trans ((below_undrew hb).mono HBL.out.size))
                refine Any.ok_append_own Try.underlying26 HI.out.1 HI.out.2.1 HI.out.2.2.1 HI.out.2.2.2 rfl (by decide) h8 hsrc (pgCells_one _) (by have := HL.out.1; omega) (by have := HL.out.2; omega) (show w8.heap.size ≤ wo.heap.size from hb.size) fun v' w' h1 h2 h3 => ?_
                rw [List.nil_append, Nat.zero_add] at h1
                exact Any.post_take hb h1 h2 rfl ⟨_, _, _, rfl⟩ rfl rfl (Nat.le_refl _) h3 (fun b hb => (h8.lt b hb).1)
              · refine Any.owes_plain rfl fun ρ wo hs' hb hc' => ?_
                have h0 : ρ (.tmp 0) = .slice (some ⟨b, off, none⟩) l.length c := hs'.old' 0 (by kernel_rfl)
                exact Any.ok_move (Any.post_val hb rfl h0)
              · refine Any.owes_plain rfl fun ρ wo hs' hb hc' => ?_
                have h6 : ρ (.tmp 6) = .int .i64 (n : Int) := hs'.old' 6 (by kernel_rfl)
                exact Any.ok_move (Any.post_val hb rfl h6)
              · refine Any.owes_plain rfl fun ρ wo hs' hb hc' => ?_
                have h47 : ρ (.tmp 47) = .slice (some ⟨b, off, none⟩) l.length c := hs'.new' 47 5 (by kernel_rfl)
                have h48 : ρ (.tmp 48) = .int .i64 (n : Int) := hs'.new' 48 6 (by kernel_rfl)
                go_simp
                exact Any.post_val hb rfl rfl
              · refine Any.owes_plain rfl fun ρ wo hs' hb hc' => ?_
                have h49 : ρ (.tmp 49) = .pointer (some ⟨b, off + n * 6, none⟩) := hs'.new' 49 7 (by kernel_rfl)
                have c0 := (HX.out wo (HBL.out.trans ((below_undrew hb).mono HBL.out.size))).1
                have c1 := (HX.out wo (HBL.out.trans ((below_undrew hb).mono HBL.out.size))).2.1
                have c2 := (HX.out wo (HBL.out.trans ((below_undrew hb).mono HBL.out.size))).2.2.1
                have c3 := (HX.out wo (HBL.out.trans ((below_undrew hb).mono HBL.out.size))).2.2.2.1
                have c4 := (HX.out wo (HBL.out.trans ((below_undrew hb).mono HBL.out.size))).2.2.2.2.1
                have c5 := (HX.out wo (HBL.out.trans ((below_undrew hb).mono HBL.out.size))).2.2.2.2.2
                go_simp
                exact Any.post_val hb rfl rfl
              · refine Any.owes_plain rfl fun ρ wo hs' hb hc' => ?_
                have h50 : ρ (.tmp 50) = .agg #[.string xt, .string xd, .string xc, .int .i64 xy, .int .i64 xa, .bool xh] := hs'.new' 50 8 (by kernel_rfl)
                go_simp
                exact Any.post_new hb ⟨_, rfl, heap_alloc_new _ _⟩ (one_below _ _) (by intro b hb'; obtain rfl : wo.heap.size = b := Option.some.inj hb'; exact Nat.le_refl _)
              · refine Any.owes_plain rfl fun ρ wo hs' hb hc' => ?_
                have h8 : wo.ownsRow w8.heap.size 37 6 (ρ (.tmp 46)) (0) (pgCells (D.take 0)) := hs'.new' 46 4 (by kernel_rfl)
                obtain ⟨g, hg, hgb⟩ := hs'.new' 51 9 (by kernel_rfl)
                have hsrc : Src wo 6 (ρ (.tmp 51)) 1 [.string xt, .string xd, .string xc, .int .i64 xy, .int .i64 xa, .bool xh] := by rw [hg]; exact src_block hgb rfl
                refine Any.ok_append_own Try.underlying26 HI.out.1 HI.out.2.1 HI.out.2.2.1 HI.out.2.2.2 rfl (by decide) h8 hsrc (HPO.out) HL.out.1 HL.out.2 (show w8.heap.size ≤ wo.heap.size from hb.size) fun v' w' h1 h2 h3 => ?_
                exact Any.post_take hb h1 h2 rfl ⟨_, _, _, rfl⟩ rfl rfl (Nat.le_refl _) h3 (fun b hb => (h8.lt b hb).1)
              · refine Any.owes_plain rfl fun ρ wo hs' hb hc' => ?_
                have h8 : wo.ownsRow w8.heap.size 37 6 (ρ (.tmp 52)) (0 + 1) (pgCells (D.take 0) ++ [.string xt, .string xd, .string xc, .int .i64 xy, .int .i64 xa, .bool xh]) := hs'.new' 52 10 (by kernel_rfl)
                exact Any.ok_assign (Any.post_pass hb rfl ⟨_, rfl⟩ rfl rfl h8)
            intro vals w9 hb hk ha
            have o11 : w9.ownsRow w8.heap.size 37 6 (vals 11) (0 + 1) (pgCells (D.take 0) ++ [.string xt, .string xd, .string xc, .int .i64 xy, .int .i64 xa, .bool xh]) := hk 11 (by kernel_rfl)
            have HB58 := HBL
            have hb8 := Lib.hid hb.size
            have HBL := Lib.hid (HBL.out.trans (hb.mono HBL.out.size))
            clear hk ha hb
            simp only [Any.putAll]
            go_frame
            simp only [Nat.zero_add, Nat.reduceAdd]
            generalize vals 11 = v9 at *
            have HO9 := Lib.hid o11
            have HN89 : Hid (w8.heap.size ≤ w9.heap.size) := Lib.hid hb8.out
            clear o11
            have q2 := QF.out w9
            go_wp2_with (first
              | ((with_reducible refine Any.wpl_cat (vx := v9) (vy := cutV ao D.length co 0 6) (base := w8.heap.size) (n := 0 + 1) (m := D.length - 0) (xs := pgCells (D.take 0) ++ [.string xt, .string xd, .string xc, .int .i64 xy, .int .i64 xa, .bool xh]) (news := pgCells (D.drop 0)) ?_ ?_ ?_ Try.underlying26 HI.out.1 HI.out.2.1 HI.out.2.2.1 HI.out.2.2.2 rfl (by decide) HO9.out (HSD.out w9 HBL.out) (pgCells_one _) HL2.out.1 HL2.out.2 HN89.out ?_); rfl; rfl; rfl; intro v10 w10 ho10 hg10 hw10; have HO10 := Lib.hid ho10; have HG10 := Lib.hid hg10; clear ho10 hg10 hw10; go_frame)
              | fail)
            have HOF := Lib.hid (ownsRow_base (own_insP (x := ⟨xt, xd, xc, xy, xa, xh⟩) HKL.out HO10.out) (Nat.le_trans HBEL.out.size HB58.out.size))
            have HBF : Hid (Below w.heap.size w w10) := Lib.hid ((HBEL.out.trans (HBL.out.mono HBEL.out.size)).grown HG10.out (Nat.le_trans HBEL.out.size HBL.out.size) (fun j hj => Nat.le_trans (Nat.le_trans HBEL.out.size HB58.out.size) (HO9.out.lt j hj).1))
            go_roundw
            case rel => exact ⟨n + 1, by have := HNL.out; omega, by go_num, by rw [HNX.out, HJI.out]; exact HOF.out, HBF.out⟩
            case measure => have := HNL.out; (simp [intOf]) <;> omega
          · have hmD : m < D.length := by omega
            obtain ⟨g, co', cur, hv3, hh, hg⟩ := own_pos HOWN.out (by omega)
            obtain ⟨rfl, rfl⟩ : ao = some ⟨g, 0, none⟩ ∧ co = co' := by
              simp only [Value.slice.injEq] at hv3
              exact ⟨hv3.1, hv3.2.2⟩
            have HA : Hid (∀ W, Below w5.heap.size w5 W → PgAt W g (m * 6) D[m]) := Lib.hid fun W hW => by
              obtain ⟨b1, o1, he, -, hp⟩ := pg_at ((own_pgs HOWN.out rfl).below hW (Nat.le_refl _)) hmD
              simp only [Option.some.injEq, Addr.mk.injEq, and_true] at he
              obtain ⟨rfl, rfl⟩ := he
              rwa [Nat.zero_add] at hp
            have HAH := Lib.hid (fun W => ahead_any D[m] ⟨xt, xd, xc, xy, xa, xh⟩ W)
            have hla := less_ahead (a := D[m]) (x := ⟨xt, xd, xc, xy, xa, xh⟩) (HHD.out D[m] (List.getElem_mem hmD))
            have HMO : Hid (less ⟨xt, xd, xc, xy, xa, xh⟩ D[m] = true → ∀ j (h : j < D.length), m ≤ j → less ⟨xt, xd, xc, xy, xa, xh⟩ D[j] = true) := Lib.hid fun h0 j h hj => by
              rcases Nat.lt_or_ge m j with h1 | h1
              · exact HLO.out j h (by omega)
              · obtain rfl : j = m := by omega
                exact h0
            have HJI : Hid (less ⟨xt, xd, xc, xy, xa, xh⟩ D[m] = false → rIns D ⟨xt, xd, xc, xy, xa, xh⟩ = D.take (m + 1) ++ [⟨xt, xd, xc, xy, xa, xh⟩] ++ D.drop (m + 1)) := Lib.hid fun h0 => rIns_at _ D.length D (m + 1) rfl hk HLO.out (fun _ => h0)
            have tm : ((m : Nat) : Int) < (D.length : Int) := by omega
            have hmb : (m : Int) ≤ 4000 := by omega
            have t0 : ((m + 1 : Nat) : Int) = (m : Int) + 1 := rfl
            generalize D[m] = z at *
            generalize aheadP z ⟨xt, xd, xc, xy, xa, xh⟩ = r at *
            generalize less ⟨xt, xd, xc, xy, xa, xh⟩ z = lz at *
            obtain ⟨zt, zd, zc, zy, za, zh⟩ := z
            simp only [Pg.cells, PgAt] at HA HAH
            clear hv3 hh hg hk hmD
            cases r
            · have HMO := Lib.hid (HMO.out hla)
              clear hla HJI
              rw [t0]
              clear t0
              go_wp2_with fail
              refine Any.region_lit (fun
                | 0 => Any.val (.int .i64 ((m : Int) + 1))
                | 1 => Any.val (.bool true)
                | 2 => Any.val (.bool true)
                | 3 => Any.val (.slice (some ⟨g, 0, none⟩) D.length co)
                | 4 => Any.val (.int .i64 ((m : Int) + 1))
                | 5 => Any.val (.int .i64 (m : Int))
                | 6 => Any.val (.pointer (some ⟨g, m * 6, none⟩))
                | 7 => Any.val (.agg #[.string zt, .string zd, .string zc, .int .i64 zy, .int .i64 za, .bool zh])
                | 8 => Any.val (.slice (some ⟨b, off, none⟩) l.length c)
                | 9 => Any.val (.int .i64 (n : Int))
                | 10 => Any.val (.pointer (some ⟨b, off + n * 6, none⟩))
                | 11 => Any.val (.agg #[.string xt, .string xd, .string xc, .int .i64 xy, .int .i64 xa, .bool xh])
                | 12 => Any.val (.bool false)
                | 13 => Any.val (.bool true)
                | 14 => Any.val (.bool true)
                | _ => Any.idle) (by kernel_rfl) (by kernel_rfl) (by kernel_rfl) ?_ ?_ ?_
              · intro i _
                match i with
                | 0 => exact Any.lasts_val _
                | 1 => exact Any.lasts_val _
                | 2 => exact Any.lasts_val _
                | 3 => exact Any.lasts_val _
                | 4 => exact Any.lasts_val _
                | 5 => exact Any.lasts_val _
                | 6 => exact Any.lasts_val _
                | 7 => exact Any.lasts_val _
                | 8 => exact Any.lasts_val _
                | 9 => exact Any.lasts_val _
                | 10 => exact Any.lasts_val _
                | 11 => exact Any.lasts_val _
                | 12 => exact Any.lasts_val _
                | 13 => exact Any.lasts_val _
                | 14 => exact Any.lasts_val _
                | n + 15 => exact Any.lasts_idle
              · refine ⟨?_, ?_, ?_, ?_, ?_, ?_, ?_, ?_, ?_, ?_, ?_, ?_, ?_, ?_, ?_, trivial⟩
                · refine Any.owes_plain rfl fun ρ wo hs' hb hc' => ?_
                  have h7 : ρ (.tmp 7) = .int .i64 ((m : Int) + 1) := hs'.old' 7 (by kernel_rfl)
                  exact Any.ok_move (Any.post_val hb rfl h7)
                · refine Any.owes_plain rfl fun ρ wo hs' hb hc' => ?_
                  have h25 : ρ (.tmp 25) = .int .i64 ((m : Int) + 1) := hs'.new' 25 0 (by kernel_rfl)
                  go_simp
                  exact Any.post_val hb rfl rfl
                · refine Any.owes_plain rfl fun ρ wo hs' hb hc' => ?_
                  have h26 : ρ (.tmp 26) = .bool true := hs'.new' 26 1 (by kernel_rfl)
                  exact Any.ok_move (Any.post_val hb rfl h26)
                · refine Any.owes_on rfl rfl (by kernel_rfl) rfl fun ρ wo hs' hb hc' => ?_
                  have h5 : ρ (.tmp 5) = .slice (some ⟨g, 0, none⟩) D.length co := hs'.old' 5 (by kernel_rfl)
                  exact Any.ok_move (Any.post_val hb rfl h5)
                · refine Any.owes_on rfl rfl (by kernel_rfl) rfl fun ρ wo hs' hb hc' => ?_
                  have h7 : ρ (.tmp 7) = .int .i64 ((m : Int) + 1) := hs'.old' 7 (by kernel_rfl)
                  exact Any.ok_move (Any.post_val hb rfl h7)
                · refine Any.owes_on rfl rfl (by kernel_rfl) rfl fun ρ wo hs' hb hc' => ?_
                  have h29 : ρ (.tmp 29) = .int .i64 ((m : Int) + 1) := hs'.new' 29 4 (by kernel_rfl)
                  have e : IntKind.i64.wrap (m : Int) = m := IntWalk.i64_in _ (by omega)
                  go_simp
                  exact Any.post_val hb rfl rfl
                · refine Any.owes_on rfl rfl (by kernel_rfl) rfl fun ρ wo hs' hb hc' => ?_
                  have h28 : ρ (.tmp 28) = .slice (some ⟨g, 0, none⟩) D.length co := hs'.new' 28 3 (by kernel_rfl)
                  have h30 : ρ (.tmp 30) = .int .i64 (m : Int) := hs'.new' 30 5 (by kernel_rfl)
                  go_simp
                  exact Any.post_val hb rfl rfl
                · refine Any.owes_on rfl rfl (by kernel_rfl) rfl fun ρ wo hs' hb hc' => ?_
                  have h31 : ρ (.tmp 31) = .pointer (some ⟨g, m * 6, none⟩) := hs'.new' 31 6 (by kernel_rfl)
                  have c0 := (HA.out wo (HBL.out.trans ((below_undrew hb).mono HBL.out.size))).1
                  have c1 := (HA.out wo (HBL.out.trans ((below_undrew hb).mono HBL.out.size))).2.1
                  have c2 := (HA.out wo (HBL.out.trans ((below_undrew hb).mono HBL.out.size))).2.2.1
                  have c3 := (HA.out wo (HBL.out.trans ((below_undrew hb).mono HBL.out.size))).2.2.2.1
                  have c4 := (HA.out wo (HBL.out.trans ((below_undrew hb).mono HBL.out.size))).2.2.2.2.1
                  have c5 := (HA.out wo (HBL.out.trans ((below_undrew hb).mono HBL.out.size))).2.2.2.2.2
                  go_simp
                  exact Any.post_val hb rfl rfl
                · refine Any.owes_on rfl rfl (by kernel_rfl) rfl fun ρ wo hs' hb hc' => ?_
                  have h0 : ρ (.tmp 0) = .slice (some ⟨b, off, none⟩) l.length c := hs'.old' 0 (by kernel_rfl)
                  exact Any.ok_move (Any.post_val hb rfl h0)
                · refine Any.owes_on rfl rfl (by kernel_rfl) rfl fun ρ wo hs' hb hc' => ?_
                  have h6 : ρ (.tmp 6) = .int .i64 (n : Int) := hs'.old' 6 (by kernel_rfl)
                  exact Any.ok_move (Any.post_val hb rfl h6)
                · refine Any.owes_on rfl rfl (by kernel_rfl) rfl fun ρ wo hs' hb hc' => ?_
                  have h33 : ρ (.tmp 33) = .slice (some ⟨b, off, none⟩) l.length c := hs'.new' 33 8 (by kernel_rfl)
                  have h34 : ρ (.tmp 34) = .int .i64 (n : Int) := hs'.new' 34 9 (by kernel_rfl)
                  go_simp
                  exact Any.post_val hb rfl rfl
                · refine Any.owes_on rfl rfl (by kernel_rfl) rfl fun ρ wo hs' hb hc' => ?_
                  have h35 : ρ (.tmp 35) = .pointer (some ⟨b, off + n * 6, none⟩) := hs'.new' 35 10 (by kernel_rfl)
                  have c0 := (HX.out wo (HBL.out.trans ((below_undrew hb).mono HBL.out.size))).1
                  have c1 := (HX.out wo (HBL.out.trans ((below_undrew hb).mono HBL.out.size))).2.1
                  have c2 := (HX.out wo (HBL.out.trans ((below_undrew hb).mono HBL.out.size))).2.2.1
                  have c3 := (HX.out wo (HBL.out.trans ((below_undrew hb).mono HBL.out.size))).2.2.2.1
                  have c4 := (HX.out wo (HBL.out.trans ((below_undrew hb).mono HBL.out.size))).2.2.2.2.1
                  have c5 := (HX.out wo (HBL.out.trans ((below_undrew hb).mono HBL.out.size))).2.2.2.2.2
                  go_simp
                  exact Any.post_val hb rfl rfl
                · refine Any.owes_on rfl rfl (by kernel_rfl) rfl fun ρ wo hs' hb hc' => ?_
                  have h32 : ρ (.tmp 32) = .agg #[.string zt, .string zd, .string zc, .int .i64 zy, .int .i64 za, .bool zh] := hs'.new' 32 7 (by kernel_rfl)
                  have h36 : ρ (.tmp 36) = .agg #[.string xt, .string xd, .string xc, .int .i64 xy, .int .i64 xa, .bool xh] := hs'.new' 36 11 (by kernel_rfl)
                  have hf := hs'.func 53
                  go_simp
                  exact (HAH.out wo).mono fun e w' ⟨he, hb'⟩ => ⟨_, he, Any.post_vals hb rfl rfl hb'⟩
                · refine Any.owes_on rfl rfl (by kernel_rfl) rfl fun ρ wo hs' hb hc' => ?_
                  have h37 : ρ (.tmp 37) = .bool false := hs'.new' 37 12 (by kernel_rfl)
                  go_simp
                  exact Any.post_val hb rfl rfl
                · refine Any.owes_plain rfl fun ρ wo hs' hb hc' => ?_
                  have h27 : ρ (.tmp 27) = .bool true := hs'.new' 27 2 (by kernel_rfl)
                  have h38 : ρ (.tmp 38) = .bool true := hs'.new' 38 13 (by kernel_rfl)
                  go_simp
                  exact Any.post_val hb rfl rfl
              intro vals w7 hb hk ha
              have h14 : vals 14 = .bool true := hk 14 (by kernel_rfl)
              have HBL := Lib.hid (HBL.out.trans (hb.mono HBL.out.size))
              clear hk ha hb
              simp only [Any.putAll]
              go_frame
              simp only [Nat.zero_add, Nat.reduceAdd]
              rw [h14]
              clear h14
              go_wp2_with fail
              go_roundw
              case rel => exact ⟨m, by have := HKL.out; omega, by go_num, HMO.out, HBL.out⟩
              case measure => have := HKL.out; (simp [intOf]) <;> omega
            · have HJI := Lib.hid (HJI.out hla)
              clear hla HMO
              rw [t0]
              go_wp2_with fail
              refine Any.region_lit (fun
                | 0 => Any.val (.int .i64 ((m : Int) + 1))
                | 1 => Any.val (.bool true)
                | 2 => Any.val (.bool true)
                | 3 => Any.val (.slice (some ⟨g, 0, none⟩) D.length co)
                | 4 => Any.val (.int .i64 ((m : Int) + 1))
                | 5 => Any.val (.int .i64 (m : Int))
                | 6 => Any.val (.pointer (some ⟨g, m * 6, none⟩))
                | 7 => Any.val (.agg #[.string zt, .string zd, .string zc, .int .i64 zy, .int .i64 za, .bool zh])
                | 8 => Any.val (.slice (some ⟨b, off, none⟩) l.length c)
                | 9 => Any.val (.int .i64 (n : Int))
                | 10 => Any.val (.pointer (some ⟨b, off + n * 6, none⟩))
                | 11 => Any.val (.agg #[.string xt, .string xd, .string xc, .int .i64 xy, .int .i64 xa, .bool xh])
                | 12 => Any.val (.bool true)
                | 13 => Any.val (.bool false)
                | 14 => Any.val (.bool false)
                | _ => Any.idle) (by kernel_rfl) (by kernel_rfl) (by kernel_rfl) ?_ ?_ ?_
              · intro i _
                match i with
                | 0 => exact Any.lasts_val _
                | 1 => exact Any.lasts_val _
                | 2 => exact Any.lasts_val _
                | 3 => exact Any.lasts_val _
                | 4 => exact Any.lasts_val _
                | 5 => exact Any.lasts_val _
                | 6 => exact Any.lasts_val _
                | 7 => exact Any.lasts_val _
                | 8 => exact Any.lasts_val _
                | 9 => exact Any.lasts_val _
                | 10 => exact Any.lasts_val _
                | 11 => exact Any.lasts_val _
                | 12 => exact Any.lasts_val _
                | 13 => exact Any.lasts_val _
                | 14 => exact Any.lasts_val _
                | n + 15 => exact Any.lasts_idle
              · refine ⟨?_, ?_, ?_, ?_, ?_, ?_, ?_, ?_, ?_, ?_, ?_, ?_, ?_, ?_, ?_, trivial⟩
                · refine Any.owes_plain rfl fun ρ wo hs' hb hc' => ?_
                  have h7 : ρ (.tmp 7) = .int .i64 ((m : Int) + 1) := hs'.old' 7 (by kernel_rfl)
                  exact Any.ok_move (Any.post_val hb rfl h7)
                · refine Any.owes_plain rfl fun ρ wo hs' hb hc' => ?_
                  have h25 : ρ (.tmp 25) = .int .i64 ((m : Int) + 1) := hs'.new' 25 0 (by kernel_rfl)
                  go_simp
                  exact Any.post_val hb rfl rfl
                · refine Any.owes_plain rfl fun ρ wo hs' hb hc' => ?_
                  have h26 : ρ (.tmp 26) = .bool true := hs'.new' 26 1 (by kernel_rfl)
                  exact Any.ok_move (Any.post_val hb rfl h26)
                · refine Any.owes_on rfl rfl (by kernel_rfl) rfl fun ρ wo hs' hb hc' => ?_
                  have h5 : ρ (.tmp 5) = .slice (some ⟨g, 0, none⟩) D.length co := hs'.old' 5 (by kernel_rfl)
                  exact Any.ok_move (Any.post_val hb rfl h5)
                · refine Any.owes_on rfl rfl (by kernel_rfl) rfl fun ρ wo hs' hb hc' => ?_
                  have h7 : ρ (.tmp 7) = .int .i64 ((m : Int) + 1) := hs'.old' 7 (by kernel_rfl)
                  exact Any.ok_move (Any.post_val hb rfl h7)
                · refine Any.owes_on rfl rfl (by kernel_rfl) rfl fun ρ wo hs' hb hc' => ?_
                  have h29 : ρ (.tmp 29) = .int .i64 ((m : Int) + 1) := hs'.new' 29 4 (by kernel_rfl)
                  have e : IntKind.i64.wrap (m : Int) = m := IntWalk.i64_in _ (by omega)
                  go_simp
                  exact Any.post_val hb rfl rfl
                · refine Any.owes_on rfl rfl (by kernel_rfl) rfl fun ρ wo hs' hb hc' => ?_
                  have h28 : ρ (.tmp 28) = .slice (some ⟨g, 0, none⟩) D.length co := hs'.new' 28 3 (by kernel_rfl)
                  have h30 : ρ (.tmp 30) = .int .i64 (m : Int) := hs'.new' 30 5 (by kernel_rfl)
                  go_simp
                  exact Any.post_val hb rfl rfl
                · refine Any.owes_on rfl rfl (by kernel_rfl) rfl fun ρ wo hs' hb hc' => ?_
                  have h31 : ρ (.tmp 31) = .pointer (some ⟨g, m * 6, none⟩) := hs'.new' 31 6 (by kernel_rfl)
                  have c0 := (HA.out wo (HBL.out.trans ((below_undrew hb).mono HBL.out.size))).1
                  have c1 := (HA.out wo (HBL.out.trans ((below_undrew hb).mono HBL.out.size))).2.1
                  have c2 := (HA.out wo (HBL.out.trans ((below_undrew hb).mono HBL.out.size))).2.2.1
                  have c3 := (HA.out wo (HBL.out.trans ((below_undrew hb).mono HBL.out.size))).2.2.2.1
                  have c4 := (HA.out wo (HBL.out.trans ((below_undrew hb).mono HBL.out.size))).2.2.2.2.1
                  have c5 := (HA.out wo (HBL.out.trans ((below_undrew hb).mono HBL.out.size))).2.2.2.2.2
                  go_simp
                  exact Any.post_val hb rfl rfl
                · refine Any.owes_on rfl rfl (by kernel_rfl) rfl fun ρ wo hs' hb hc' => ?_
                  have h0 : ρ (.tmp 0) = .slice (some ⟨b, off, none⟩) l.length c := hs'.old' 0 (by kernel_rfl)
                  exact Any.ok_move (Any.post_val hb rfl h0)
                · refine Any.owes_on rfl rfl (by kernel_rfl) rfl fun ρ wo hs' hb hc' => ?_
                  have h6 : ρ (.tmp 6) = .int .i64 (n : Int) := hs'.old' 6 (by kernel_rfl)
                  exact Any.ok_move (Any.post_val hb rfl h6)
                · refine Any.owes_on rfl rfl (by kernel_rfl) rfl fun ρ wo hs' hb hc' => ?_
                  have h33 : ρ (.tmp 33) = .slice (some ⟨b, off, none⟩) l.length c := hs'.new' 33 8 (by kernel_rfl)
                  have h34 : ρ (.tmp 34) = .int .i64 (n : Int) := hs'.new' 34 9 (by kernel_rfl)
                  go_simp
                  exact Any.post_val hb rfl rfl
                · refine Any.owes_on rfl rfl (by kernel_rfl) rfl fun ρ wo hs' hb hc' => ?_
                  have h35 : ρ (.tmp 35) = .pointer (some ⟨b, off + n * 6, none⟩) := hs'.new' 35 10 (by kernel_rfl)
                  have c0 := (HX.out wo (HBL.out.trans ((below_undrew hb).mono HBL.out.size))).1
                  have c1 := (HX.out wo (HBL.out.trans ((below_undrew hb).mono HBL.out.size))).2.1
                  have c2 := (HX.out wo (HBL.out.trans ((below_undrew hb).mono HBL.out.size))).2.2.1
                  have c3 := (HX.out wo (HBL.out.trans ((below_undrew hb).mono HBL.out.size))).2.2.2.1
                  have c4 := (HX.out wo (HBL.out.trans ((below_undrew hb).mono HBL.out.size))).2.2.2.2.1
                  have c5 := (HX.out wo (HBL.out.trans ((below_undrew hb).mono HBL.out.size))).2.2.2.2.2
                  go_simp
                  exact Any.post_val hb rfl rfl
                · refine Any.owes_on rfl rfl (by kernel_rfl) rfl fun ρ wo hs' hb hc' => ?_
                  have h32 : ρ (.tmp 32) = .agg #[.string zt, .string zd, .string zc, .int .i64 zy, .int .i64 za, .bool zh] := hs'.new' 32 7 (by kernel_rfl)
                  have h36 : ρ (.tmp 36) = .agg #[.string xt, .string xd, .string xc, .int .i64 xy, .int .i64 xa, .bool xh] := hs'.new' 36 11 (by kernel_rfl)
                  have hf := hs'.func 53
                  go_simp
                  exact (HAH.out wo).mono fun e w' ⟨he, hb'⟩ => ⟨_, he, Any.post_vals hb rfl rfl hb'⟩
                · refine Any.owes_on rfl rfl (by kernel_rfl) rfl fun ρ wo hs' hb hc' => ?_
                  have h37 : ρ (.tmp 37) = .bool true := hs'.new' 37 12 (by kernel_rfl)
                  go_simp
                  exact Any.post_val hb rfl rfl
                · refine Any.owes_plain rfl fun ρ wo hs' hb hc' => ?_
                  have h27 : ρ (.tmp 27) = .bool true := hs'.new' 27 2 (by kernel_rfl)
                  have h38 : ρ (.tmp 38) = .bool false := hs'.new' 38 13 (by kernel_rfl)
                  go_simp
                  exact Any.post_val hb rfl rfl
              intro vals w7 hb hk ha
              have h14 : vals 14 = .bool false := hk 14 (by kernel_rfl)
              have HBL := Lib.hid (HBL.out.trans (hb.mono HBL.out.size))
              clear hk ha hb
              simp only [Any.putAll]
              go_frame
              simp only [Nat.zero_add, Nat.reduceAdd]
              rw [h14]
              clear h14
              go_wp2_with fail
              rw [← t0]
              clear t0
              obtain ⟨k, hkk⟩ : ∃ k : Nat, k = m + 1 := ⟨_, rfl⟩
              rw [← hkk] at HKL HJI ⊢
              clear hkk tm hmb
              generalize w7 = w8 at *
              have HSO := Lib.hid (own_pgs HOWN.out rfl)
              obtain ⟨i0, hi, hz, hsz, hby⟩ := info_parts infoPg
              have hcap := (Sl.take (m := k) HSO.out (by simpa using HKL.out)).1
              have QT : Hid (∀ w, (Instr.slice 26 (.slice (some ⟨g, 0, none⟩) D.length co) none (some (.int .i64 (k : Int))) none).run Try.prog w = .ok (.slice (some ⟨g, 0, none⟩) k co) w) := Lib.hid fun w => Any.run_slice_to Try.underlying26 hi (some ⟨g, 0, none⟩) _ co k hcap
              have QF : Hid (∀ w, (Instr.slice 26 (.slice (some ⟨g, 0, none⟩) D.length co) (some (.int .i64 (k : Int))) none none).run Try.prog w = .ok (cutV (some ⟨g, 0, none⟩) D.length co k 6) w) := Lib.hid fun w => run_slice_from Try.underlying26 hi hsz (some ⟨g, 0, none⟩) _ co k HKL.out
              have HSA : Hid (∀ W, Below w5.heap.size w5 W → Src W 6 (.slice (some ⟨g, 0, none⟩) k co) k (pgCells (D.take k))) := Lib.hid fun W hW => by
                have h1 := (Sl.take (m := k) (HSO.out.below hW (Nat.le_refl _)) (by simpa using HKL.out)).2
                rw [← List.map_take] at h1
                have h2 := src_pgs h1
                rwa [List.length_take, Nat.min_eq_left HKL.out] at h2
              have HSD : Hid (∀ W, Below w5.heap.size w5 W → Src W 6 (cutV (some ⟨g, 0, none⟩) D.length co k 6) (D.length - k) (pgCells (D.drop k))) := Lib.hid fun W hW => by
                have h1 := Sl.drop (k := k) (HSO.out.below hW (Nat.le_refl _)) (by simpa using HKL.out)
                rw [← List.map_drop] at h1
                have h2 := src_pgs h1
                rwa [List.length_drop] at h2
              have HL : Hid (k + 1 ≤ maxLen ∧ (k + 1) * 72 ≤ 140737488355328) := Lib.hid (by have := HKL.out; have := HLL.out; simp only [maxLen]; omega)
              have HL2 : Hid (k + 1 + (D.length - k) ≤ maxLen ∧ (k + 1 + (D.length - k)) * 72 ≤ 140737488355328) := Lib.hid (by have := HKL.out; have := HLL.out; simp only [maxLen]; omega)
              clear hi hz hsz hby hcap
              refine Any.region_lit (fun
                | 0 => Any.row w8.heap.size 37 6 (0) ([]) []
                | 1 => Any.val (.slice (some ⟨g, 0, none⟩) D.length co)
                | 2 => Any.val (.int .i64 (k : Int))
                | 3 => Any.val (.slice (some ⟨g, 0, none⟩) k co)
                | 4 => Any.row w8.heap.size 37 6 (k) (pgCells (D.take k)) [0]
                | 5 => Any.val (.slice (some ⟨b, off, none⟩) l.length c)
                | 6 => Any.val (.int .i64 (n : Int))
                | 7 => Any.val (.pointer (some ⟨b, off + n * 6, none⟩))
                | 8 => Any.val (.agg #[.string xt, .string xd, .string xc, .int .i64 xy, .int .i64 xa, .bool xh])
                | 9 => Any.made 37 1 #[.string xt, .string xd, .string xc, .int .i64 xy, .int .i64 xa, .bool xh]
                | 10 => Any.row w8.heap.size 37 6 (k + 1) (pgCells (D.take k) ++ [.string xt, .string xd, .string xc, .int .i64 xy, .int .i64 xa, .bool xh]) [4]
                | 11 => Any.row w8.heap.size 37 6 (k + 1) (pgCells (D.take k) ++ [.string xt, .string xd, .string xc, .int .i64 xy, .int .i64 xa, .bool xh]) [10]
                | _ => Any.idle) (by kernel_rfl) (by kernel_rfl) (by kernel_rfl) ?_ ?_ ?_
              · intro i _
                match i with
                | 0 => exact Any.lasts_row _ _ _ _ _ _
                | 1 => exact Any.lasts_val _
                | 2 => exact Any.lasts_val _
                | 3 => exact Any.lasts_val _
                | 4 => exact Any.lasts_row _ _ _ _ _ _
                | 5 => exact Any.lasts_val _
                | 6 => exact Any.lasts_val _
                | 7 => exact Any.lasts_val _
                | 8 => exact Any.lasts_val _
                | 9 => exact Any.lasts_made _ _ _
                | 10 => exact Any.lasts_row _ _ _ _ _ _
                | 11 => exact Any.lasts_row _ _ _ _ _ _
                | n + 12 => exact Any.lasts_idle
              · refine ⟨?_, ?_, ?_, ?_, ?_, ?_, ?_, ?_, ?_, ?_, ?_, ?_, trivial⟩
                · refine Any.owes_plain rfl fun ρ wo hs' hb hc' => ?_
                  go_simp
                  exact Any.post_new hb (own_empty (show w8.heap.size ≤ wo.heap.size from hb.size)) (one_below _ _) (by intro b hb'; obtain rfl : wo.heap.size = b := Option.some.inj hb'; exact Nat.le_refl _)
                · refine Any.owes_plain rfl fun ρ wo hs' hb hc' => ?_
                  have h5 : ρ (.tmp 5) = .slice (some ⟨g, 0, none⟩) D.length co := hs'.old' 5 (by kernel_rfl)
                  exact Any.ok_move (Any.post_val hb rfl h5)
                · refine Any.owes_plain rfl fun ρ wo hs' hb hc' => ?_
                  have h7 : ρ (.tmp 7) = .int .i64 (k : Int) := hs'.old' 7 (by kernel_rfl)
                  exact Any.ok_move (Any.post_val hb rfl h7)
                · refine Any.owes_plain rfl fun ρ wo hs' hb hc' => ?_
                  have h43 : ρ (.tmp 43) = .slice (some ⟨g, 0, none⟩) D.length co := hs'.new' 43 1 (by kernel_rfl)
                  have h44 : ρ (.tmp 44) = .int .i64 (k : Int) := hs'.new' 44 2 (by kernel_rfl)
                  have q1 := QT.out wo
                  go_simp
                  exact Any.post_val hb rfl rfl
                · refine Any.owes_plain rfl fun ρ wo hs' hb hc' => ?_
                  have h45 : ρ (.tmp 45) = .slice (some ⟨g, 0, none⟩) k co := hs'.new' 45 3 (by kernel_rfl)
                  have h8 : wo.ownsRow w8.heap.size 37 6 (ρ (.tmp 42)) 0 [] := hs'.new' 42 0 (by kernel_rfl)
                  have hsrc : Src wo 6 (ρ (.tmp 45)) k (pgCells (D.take k)) := by rw [h45]; exact HSA.out wo (HBL.out.trans ((below_undrew hb).mono HBL.out.size))
                  refine Any.ok_append_own Try.underlying26 HI.out.1 HI.out.2.1 HI.out.2.2.1 HI.out.2.2.2 rfl (by decide) h8 hsrc (pgCells_one _) (by have := HL.out.1; omega) (by have := HL.out.2; omega) (show w8.heap.size ≤ wo.heap.size from hb.size) fun v' w' h1 h2 h3 => ?_
                  rw [List.nil_append, Nat.zero_add] at h1
                  exact Any.post_take hb h1 h2 rfl ⟨_, _, _, rfl⟩ rfl rfl (Nat.le_refl _) h3 (fun b hb => (h8.lt b hb).1)
                · refine Any.owes_plain rfl fun ρ wo hs' hb hc' => ?_
                  have h0 : ρ (.tmp 0) = .slice (some ⟨b, off, none⟩) l.length c := hs'.old' 0 (by kernel_rfl)
                  exact Any.ok_move (Any.post_val hb rfl h0)
                · refine Any.owes_plain rfl fun ρ wo hs' hb hc' => ?_
                  have h6 : ρ (.tmp 6) = .int .i64 (n : Int) := hs'.old' 6 (by kernel_rfl)
                  exact Any.ok_move (Any.post_val hb rfl h6)
                · refine Any.owes_plain rfl fun ρ wo hs' hb hc' => ?_
                  have h47 : ρ (.tmp 47) = .slice (some ⟨b, off, none⟩) l.length c := hs'.new' 47 5 (by kernel_rfl)
                  have h48 : ρ (.tmp 48) = .int .i64 (n : Int) := hs'.new' 48 6 (by kernel_rfl)
                  go_simp
                  exact Any.post_val hb rfl rfl
                · refine Any.owes_plain rfl fun ρ wo hs' hb hc' => ?_
                  have h49 : ρ (.tmp 49) = .pointer (some ⟨b, off + n * 6, none⟩) := hs'.new' 49 7 (by kernel_rfl)
                  have c0 := (HX.out wo (HBL.out.trans ((below_undrew hb).mono HBL.out.size))).1
                  have c1 := (HX.out wo (HBL.out.trans ((below_undrew hb).mono HBL.out.size))).2.1
                  have c2 := (HX.out wo (HBL.out.trans ((below_undrew hb).mono HBL.out.size))).2.2.1
                  have c3 := (HX.out wo (HBL.out.trans ((below_undrew hb).mono HBL.out.size))).2.2.2.1
                  have c4 := (HX.out wo (HBL.out.trans ((below_undrew hb).mono HBL.out.size))).2.2.2.2.1
                  have c5 := (HX.out wo (HBL.out.trans ((below_undrew hb).mono HBL.out.size))).2.2.2.2.2
                  go_simp
                  exact Any.post_val hb rfl rfl
                · refine Any.owes_plain rfl fun ρ wo hs' hb hc' => ?_
                  have h50 : ρ (.tmp 50) = .agg #[.string xt, .string xd, .string xc, .int .i64 xy, .int .i64 xa, .bool xh] := hs'.new' 50 8 (by kernel_rfl)
                  go_simp
                  exact Any.post_new hb ⟨_, rfl, heap_alloc_new _ _⟩ (one_below _ _) (by intro b hb'; obtain rfl : wo.heap.size = b := Option.some.inj hb'; exact Nat.le_refl _)
                · refine Any.owes_plain rfl fun ρ wo hs' hb hc' => ?_
                  have h8 : wo.ownsRow w8.heap.size 37 6 (ρ (.tmp 46)) (k) (pgCells (D.take k)) := hs'.new' 46 4 (by kernel_rfl)
                  obtain ⟨g, hg, hgb⟩ := hs'.new' 51 9 (by kernel_rfl)
                  have hsrc : Src wo 6 (ρ (.tmp 51)) 1 [.string xt, .string xd, .string xc, .int .i64 xy, .int .i64 xa, .bool xh] := by rw [hg]; exact src_block hgb rfl
                  refine Any.ok_append_own Try.underlying26 HI.out.1 HI.out.2.1 HI.out.2.2.1 HI.out.2.2.2 rfl (by decide) h8 hsrc (HPO.out) HL.out.1 HL.out.2 (show w8.heap.size ≤ wo.heap.size from hb.size) fun v' w' h1 h2 h3 => ?_
                  exact Any.post_take hb h1 h2 rfl ⟨_, _, _, rfl⟩ rfl rfl (Nat.le_refl _) h3 (fun b hb => (h8.lt b hb).1)
                · refine Any.owes_plain rfl fun ρ wo hs' hb hc' => ?_
                  have h8 : wo.ownsRow w8.heap.size 37 6 (ρ (.tmp 52)) (k + 1) (pgCells (D.take k) ++ [.string xt, .string xd, .string xc, .int .i64 xy, .int .i64 xa, .bool xh]) := hs'.new' 52 10 (by kernel_rfl)
                  exact Any.ok_assign (Any.post_pass hb rfl ⟨_, rfl⟩ rfl rfl h8)
              intro vals w9 hb hk ha
              have o11 : w9.ownsRow w8.heap.size 37 6 (vals 11) (k + 1) (pgCells (D.take k) ++ [.string xt, .string xd, .string xc, .int .i64 xy, .int .i64 xa, .bool xh]) := hk 11 (by kernel_rfl)
              have HB58 := HBL
              have hb8 := Lib.hid hb.size
              have HBL := Lib.hid (HBL.out.trans (hb.mono HBL.out.size))
              clear hk ha hb
              simp only [Any.putAll]
              go_frame
              simp only [Nat.zero_add, Nat.reduceAdd]
              generalize vals 11 = v9 at *
              have HO9 := Lib.hid o11
              have HN89 : Hid (w8.heap.size ≤ w9.heap.size) := Lib.hid hb8.out
              clear o11
              have q2 := QF.out w9
              go_wp2_with (first
                | ((with_reducible refine Any.wpl_cat (vx := v9) (vy := cutV (some ⟨g, 0, none⟩) D.length co k 6) (base := w8.heap.size) (n := k + 1) (m := D.length - k) (xs := pgCells (D.take k) ++ [.string xt, .string xd, .string xc, .int .i64 xy, .int .i64 xa, .bool xh]) (news := pgCells (D.drop k)) ?_ ?_ ?_ Try.underlying26 HI.out.1 HI.out.2.1 HI.out.2.2.1 HI.out.2.2.2 rfl (by decide) HO9.out (HSD.out w9 HBL.out) (pgCells_one _) HL2.out.1 HL2.out.2 HN89.out ?_); rfl; rfl; rfl; intro v10 w10 ho10 hg10 hw10; have HO10 := Lib.hid ho10; have HG10 := Lib.hid hg10; clear ho10 hg10 hw10; go_frame)
                | fail)
              have HOF := Lib.hid (ownsRow_base (own_insP (x := ⟨xt, xd, xc, xy, xa, xh⟩) HKL.out HO10.out) (Nat.le_trans HBEL.out.size HB58.out.size))
              have HBF : Hid (Below w.heap.size w w10) := Lib.hid ((HBEL.out.trans (HBL.out.mono HBEL.out.size)).grown HG10.out (Nat.le_trans HBEL.out.size HBL.out.size) (fun j hj => Nat.le_trans (Nat.le_trans HBEL.out.size HB58.out.size) (HO9.out.lt j hj).1))
              go_roundw
              case rel => exact ⟨n + 1, by have := HNL.out; omega, by go_num, by rw [HNX.out, HJI.out]; exact HOF.out, HBF.out⟩
              case measure => have := HNL.out; (simp [intOf]) <;> omega
    · have HE : Hid (l.take n = l) := Lib.hid (List.take_of_length_le (by omega))
      clear hown hbel hn
      go_wp2_with fail
      go_ret
      have ho := HOWN.out
      rw [HE.out] at ho
      exact retRow ho (Nat.le_refl _) HBEL.out
end Go.Proofs.Ytnlfhncbnfmccaa.Sc
