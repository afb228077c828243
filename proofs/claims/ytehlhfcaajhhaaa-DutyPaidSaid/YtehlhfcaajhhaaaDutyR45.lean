/- The reference's tariff: find, New; and whether rows are too many. -/
import Derived.Test.YtehlhfcaajhhaaaTarN45
import Derived.Test.YtehlhfcaajhhaaaStrRows
namespace Go.Proofs.Ytehlhfcaajhhaaa.Sc
open Go Go.RowKit Go.ChangeShapes Go.WideShapes Go.ChangeAt
set_option maxRecDepth 100000

def isR (c o : ByteArray) (r : Rt) : Bool := decide (r.code = c) && decide (r.org = o)
/-- Where a row stands; -1: nowhere. -/
def fAt (c o : ByteArray) : Nat → List Rt → Int
  | _, [] => -1
  | k, r :: l => if isR c o r = true then k else fAt c o (k + 1) l
theorem fAt_spec (c o : ByteArray) : ∀ (l : List Rt) (k : Nat), (fAt c o k l = -1 ∧ hasR l c o = false) ∨ ∃ j, ∃ h : j < l.length, fAt c o k l = ((k + j : Nat) : Int) ∧ hasR l c o = true ∧ Km.kget (tEnts l) (c, o) = some (.agg #[.int .i64 l[j].num, .int .i64 l[j].den])
  | [], k => .inl ⟨rfl, rfl⟩
  | r :: l, k => by
    by_cases h : isR c o r = true
    · refine .inr ⟨0, by simp, by simp [fAt, h], by simp only [hasR, List.any_cons, isR] at *; rw [h]; rfl, ?_⟩
      simp only [isR, Bool.and_eq_true, decide_eq_true_eq] at h
      simp [tEnts, Km.kget, h.1, h.2]
    · have h' := h
      simp only [isR, Bool.and_eq_true, decide_eq_true_eq] at h'
      have hh : hasR (r :: l) c o = hasR l c o := by
        have : isR c o r = false := by simpa using h
        simp only [hasR, List.any_cons, isR] at *
        rw [this]; rfl
      have hg : Km.kget (tEnts (r :: l)) (c, o) = Km.kget (tEnts l) (c, o) := by
        have : ¬ ((c, o) = (r.code, r.org)) := by
          rintro h2
          simp only [Prod.mk.injEq] at h2
          exact h' ⟨h2.1.symm, h2.2.symm⟩
        simp only [tEnts, List.map_cons, Km.kget, this, if_false]
      rw [hh, hg]
      have hf : fAt c o k (r :: l) = fAt c o (k + 1) l := by rw [fAt, if_neg h]
      rw [hf]
      rcases fAt_spec c o l (k + 1) with h1 | ⟨j, hj, h1, h2, h3⟩
      · exact .inl h1
      · exact .inr ⟨j + 1, by simp; omega, by rw [h1]; congr 1; omega, h2, by simpa using h3⟩
theorem fAt_has (c o : ByteArray) (l : List Rt) : (0 ≤ fAt c o 0 l → hasR l c o = true) ∧ (¬ 0 ≤ fAt c o 0 l → hasR l c o = false) := by
  rcases fAt_spec c o l 0 with ⟨h1, h2⟩ | ⟨j, _, h1, h2, _⟩
  · rw [h1]; exact ⟨fun h => absurd h (by decide), fun _ => h2⟩
  · rw [h1]; exact ⟨fun _ => h2, fun h => absurd (Int.natCast_nonneg _) h⟩
set_option maxHeartbeats 4000000 in
theorem find_any (l : List Rt) (x o : ByteArray) (v : Value) (w : World) (hs : Sl w 5 v (l.map Rt.row)) :
    Calls Try.prog 33 #[v, .string x, .string o] w (Ret w (.int .i64 (fAt x o 0 l))) := by
  have hll : l.length ≤ 9223372036854775807 := by have := hs.len_le; simp only [List.length_map, maxLen] at this; omega
  obtain ⟨a, c, rfl⟩ : ∃ a c, v = .slice a l.length c := by simpa using hs.shape
  have HS := Lib.hid hs
  obtain ⟨m, hm⟩ : ∃ m : Int, m = -1 := ⟨_, rfl⟩
  clear hs
  go_enter Try.func33, Try.ntmps33
  go_wp2_with fail
  go_loopw [7] (fun i wr => ∃ k : Nat, k ≤ l.length ∧ i = .int .i64 k ∧ fAt x o 0 l = fAt x o k (l.drop k) ∧ Below w.heap.size w wr) (fun i _ => l.length - (intOf i).toNat)
  case atStart => exact ⟨0, Nat.zero_le _, rfl, rfl, Below.refl _ _⟩
  case round =>
    obtain ⟨k, hk, rfl, hrel, hbel⟩ := hrel
    by_cases hlt : k < l.length
    · obtain ⟨b, off, rfl, -, hb, hc⟩ := HS.out.at (i := k) (by simpa using hlt)
      have d0 := (hbel.cell (p := ⟨b, off + k * 5, none⟩) hb).trans (hc k l[k].row (by simp [hlt]) 0 _ rfl)
      have d1 := (hbel.cell (p := ⟨b, off + k * 5 + 1, none⟩) hb).trans (hc k l[k].row (by simp [hlt]) 1 _ rfl)
      rw [List.drop_eq_getElem_cons hlt, fAt] at hrel
      have HR := Lib.hid hrel
      have HBEL := Lib.hid hbel
      clear hrel hc hbel
      generalize l[k] = y at *
      obtain ⟨xc, xo, xd, xn, xe⟩ := y
      simp only at d0 d1
      by_cases h1 : xc = x
      · have t1 := str_yes h1
        by_cases h2 : xo = o
        · have t2 := str_yes h2
          have HQ : Hid (fAt x o 0 l = k) := Lib.hid (by rw [HR.out, if_pos (by simp [isR, h1, h2])])
          clear h1 h2
          go_wp2_with fail
          go_ret
          exact ⟨by rw [HQ.out]; rfl, HBEL.out⟩
        · have t2 := str_no h2
          have HQ : Hid (fAt x o 0 l = fAt x o (k + 1) (l.drop (k + 1))) := Lib.hid (by rw [HR.out, if_neg (by simp [isR, h2])])
          clear h1 h2
          go_wp2_with fail
          go_roundw
          case rel => exact ⟨k + 1, by omega, by go_num, HQ.out, HBEL.out⟩
          case measure => (simp [intOf]) <;> omega
      · have t1 := str_no h1
        have HQ : Hid (fAt x o 0 l = fAt x o (k + 1) (l.drop (k + 1))) := Lib.hid (by rw [HR.out, if_neg (by simp [isR, h1])])
        clear h1
        go_wp2_with fail
        go_roundw
        case rel => exact ⟨k + 1, by omega, by go_num, HQ.out, HBEL.out⟩
        case measure => (simp [intOf]) <;> omega
    · have HR : Hid (fAt x o 0 l = -1) := Lib.hid (by rw [hrel, List.drop_of_length_le (by omega)]; rfl)
      have HBEL := Lib.hid hbel
      clear hrel hbel
      go_wp2_with fail
      go_ret
      exact ⟨by rw [HR.out]; rfl, HBEL.out⟩
theorem ret5 {w w' : World} {l : List Rt} {c : Int} (h : tarCode l = c) (hb : Below w.heap.size w w') : Ret w (.int .i64 (tarCode l)) (.returned (.int .i64 c)) w' := ⟨by rw [h], hb⟩
theorem infoRate : Try.prog.info? 67 = some ((Try.prog.info? 67).get (by kernel_rfl)) := by kernel_rfl
set_option maxHeartbeats 8000000 in
theorem refNew_any (l : List Rt) (v : Value) (w : World) (hs : Sl w 5 v (l.map Rt.row)) (hl : l.length ≤ 4000) (hf : ∀ r ∈ l, r.fit) :
    Calls Try.prog 12 #[v] w (Ret w (.int .i64 (tarCode l))) := by
  obtain ⟨a, c, rfl⟩ : ∃ a c, v = .slice a l.length c := by simpa using hs.shape
  have hll : (l.length : Int) ≤ 4000 := by omega
  have tl : decide ((4096 : Int) < l.length) = false := decide_eq_false (by omega)
  have HF := Lib.hid hf
  have HS := Lib.hid hs
  have HTC0 : Hid (tarCode l = tarFrom (l.take 0) (l.drop 0)) := Lib.hid rfl
  clear hs hl hf
  go_enter Try.func12, Try.ntmps12
  go_wp2_with fail
  clear tl
  go_loopw [3] (fun i wr => ∃ k : Nat, k ≤ l.length ∧ i = .int .i64 k ∧ tarCode l = tarFrom (l.take k) (l.drop k) ∧ Below w.heap.size w wr) (fun i _ => l.length - (intOf i).toNat)
  case atStart => exact ⟨0, Nat.zero_le _, rfl, HTC0.out, Below.refl _ _⟩
  case round =>
    obtain ⟨k, hk, rfl, htc, hbel⟩ := hrel
    have HBW := Lib.hid hbel
    by_cases hlt : k < l.length
    · obtain ⟨b, off, rfl, -, hb, hc⟩ := HS.out.at (i := k) (by simpa using hlt)
      have hcc := hc k l[k].row (by simp [hlt])
      rw [tarFrom_next hlt] at htc
      have HFK := Lib.hid (HF.out l[k] (List.getElem_mem hlt))
      have HFS := fAt_has l[k].code l[k].org (l.take k)
      have HTK := Lib.hid (HS.out.take (m := k) (by simp; omega))
      have HFD0 : Hid (∀ x o W, Below w.heap.size w W → Calls Try.prog 33 #[.slice (some ⟨b, off, none⟩) k c, .string x, .string o] W (Ret W (.int .i64 (fAt x o 0 (l.take k))))) := Lib.hid (fun x o W hW => find_any (l.take k) x o _ W (by have := HTK.out.2.below hW (Nat.le_refl _); rwa [← List.map_take] at this))
      have q44 : ∀ W : World, (Instr.slice 22 (.slice (some ⟨b, off, none⟩) l.length c) none (some (.int .i64 (k : Int))) none).run Try.prog W = .ok (.slice (some ⟨b, off, none⟩) k c) W := fun W => Any.run_slice_to Try.underlying22 infoRate _ l.length c k HTK.out.1
      generalize l[k] = x at *
      obtain ⟨xc, xo, xd, xn, xe⟩ := x
      have HC : Hid (∀ W, Below w.heap.size w W → W.cell? ⟨b, off + k * 5, none⟩ = some (.string xc) ∧ W.cell? ⟨b, off + k * 5 + 1, none⟩ = some (.string xo) ∧ W.cell? ⟨b, off + k * 5 + 2, none⟩ = some (.int .i64 xd) ∧ W.cell? ⟨b, off + k * 5 + 3, none⟩ = some (.int .i64 xn) ∧ W.cell? ⟨b, off + k * 5 + 4, none⟩ = some (.int .i64 xe)) := Lib.hid (fun W hW => ⟨(hW.cell (p := ⟨b, off + k * 5, none⟩) hb).trans (hcc 0 _ rfl), (hW.cell (p := ⟨b, off + k * 5 + 1, none⟩) hb).trans (hcc 1 _ rfl), (hW.cell (p := ⟨b, off + k * 5 + 2, none⟩) hb).trans (hcc 2 _ rfl), (hW.cell (p := ⟨b, off + k * 5 + 3, none⟩) hb).trans (hcc 3 _ rfl), (hW.cell (p := ⟨b, off + k * 5 + 4, none⟩) hb).trans (hcc 4 _ rfl)⟩)
      obtain ⟨d0, d1, d2, d3, d4⟩ := HC.out _ HBW.out
      obtain ⟨F, hF⟩ : ∃ F, F = fAt xc xo 0 (l.take k) := ⟨_, rfl⟩
      simp only at HFS
      rw [← hF] at HFS
      have HFD : Hid (∀ W, Below w.heap.size w W → Calls Try.prog 33 #[.slice (some ⟨b, off, none⟩) k c, .string xc, .string xo] W (Ret W (.int .i64 F))) := Lib.hid (fun W hW => by rw [hF]; exact HFD0.out xc xo W hW)
      have HN1 := Lib.hid (fun W => refName5_any xc W HFK.out.c)
      have HN2 := Lib.hid (fun W => refName5_any xo W HFK.out.o)
      have HRR := Lib.hid (fun W => refRight_any xn xe W)
      have HFSP := Lib.hid HFS
      obtain ⟨q, hq⟩ : ∃ q, q = Rt.ok ⟨xc, xo, xd, xn, xe⟩ := ⟨_, rfl⟩
      rw [← hq] at htc
      have HHC := Lib.hid htc
      have HBB := Lib.hid hq
      simp only [Rt.ok] at HBB
      clear hF htc hcc hc hbel HFS hq
      cases h1 : nameOk xc
      all_goals
        cases h2 : xo.toList.isEmpty
        all_goals
          cases h3 : nameOk xo
          all_goals
            cases h4 : ratOk xn xe
            all_goals
              rw [h1, h2, h3, h4] at HBB
              rw [h1] at HN1
              rw [h3] at HN2
              rw [h4] at HRR
              clear h1 h3 h4
              by_cases h5 : xd = 0
              all_goals
                first | (have t5 : (xd != 0) = false := by simp [h5]) | (have t5 : (xd != 0) = true := by simp [h5])
                first | rw [decide_eq_true h5] at HBB | rw [decide_eq_false h5] at HBB
                clear h5
                go_wp2_with (first
                  | ((with_reducible refine (HN1.out _).mono ?_); rintro e w2 ⟨rfl, hb2⟩; have HBW := Lib.hid (HBW.out.trans (hb2.mono HBW.out.size)); obtain ⟨d0, d1, d2, d3, d4⟩ := HC.out _ HBW.out; clear hb2)
                  | ((with_reducible refine (HN2.out _).mono ?_); rintro e w2 ⟨rfl, hb2⟩; have HBW := Lib.hid (HBW.out.trans (hb2.mono HBW.out.size)); obtain ⟨d0, d1, d2, d3, d4⟩ := HC.out _ HBW.out; clear hb2)
                  | ((with_reducible refine (HRR.out _).mono ?_); rintro e w2 ⟨rfl, hb2⟩; have HBW := Lib.hid (HBW.out.trans (hb2.mono HBW.out.size)); obtain ⟨d0, d1, d2, d3, d4⟩ := HC.out _ HBW.out; clear hb2)
                  | fail)
                first
                  | (go_ret
                     exact ret5 (HHC.out.trans (if_pos (by rw [HBB.out]; simp))) HBW.out)
                  | (have HTC := Lib.hid (HHC.out.trans (if_neg (by rw [HBB.out]; simp)))
                     have HT5 : Hid (0 ≤ F → (if hasR (l.take k) xc xo = true then (5 : Int) else tarFrom (l.take (k + 1)) (l.drop (k + 1))) = 5) := Lib.hid (fun h => if_pos (HFSP.out.1 h))
                     have HT6 : Hid (¬ 0 ≤ F → (if hasR (l.take k) xc xo = true then (5 : Int) else tarFrom (l.take (k + 1)) (l.drop (k + 1))) = tarFrom (l.take (k + 1)) (l.drop (k + 1))) := Lib.hid (fun h => if_neg (by rw [HFSP.out.2 (by omega)]; decide))
                     refine Any.region_lit (fun
                       | 0 => Any.val (.slice (some ⟨b, off, none⟩) l.length c)
                       | 1 => Any.val (.int .i64 k)
                       | 2 => Any.val (.slice (some ⟨b, off, none⟩) k c)
                       | 3 => Any.val (.slice (some ⟨b, off, none⟩) l.length c)
                       | 4 => Any.val (.int .i64 k)
                       | 5 => Any.val (.pointer (some ⟨b, off + k * 5, none⟩))
                       | 6 => Any.val (.pointer (some ⟨b, off + k * 5, none⟩))
                       | 7 => Any.val (.string xc)
                       | 8 => Any.val (.slice (some ⟨b, off, none⟩) l.length c)
                       | 9 => Any.val (.int .i64 k)
                       | 10 => Any.val (.pointer (some ⟨b, off + k * 5, none⟩))
                       | 11 => Any.val (.pointer (some ⟨b, off + k * 5 + 1, none⟩))
                       | 12 => Any.val (.string xo)
                       | 13 => Any.val (.int .i64 F)
                       | 14 => Any.val (.bool (decide (0 ≤ F)))
                       | _ => Any.idle) (by kernel_rfl) (by kernel_rfl) (by kernel_rfl) ?_ ?_ ?_
                     · intro i _
                       match i with
                       | 0 => exact Any.lasts_val _
                       | 1 => exact Any.lasts_val _
                       | 2 => exact Any.lasts_val _
                       | 3 => exact Any.lasts_val _
                       | 4 => exact Any.lasts_val _
                       | 5 => exact Any.lasts_val _
                       | 6 => exact Any.lasts_val _
                       | 7 => exact Any.lasts_val _
                       | 8 => exact Any.lasts_val _
                       | 9 => exact Any.lasts_val _
                       | 10 => exact Any.lasts_val _
                       | 11 => exact Any.lasts_val _
                       | 12 => exact Any.lasts_val _
                       | 13 => exact Any.lasts_val _
                       | 14 => exact Any.lasts_val _
                       | n + 15 => exact Any.lasts_idle
                     · refine ⟨?_, ?_, ?_, ?_, ?_, ?_, ?_, ?_, ?_, ?_, ?_, ?_, ?_, ?_, ?_, trivial⟩
                       · refine Any.owes_plain rfl fun ρ wo hs' hb hc' => ?_
                         have h0 : ρ (.tmp 0) = .slice (some ⟨b, off, none⟩) l.length c := hs'.old' 0 (by kernel_rfl)
                         exact Any.ok_move (Any.post_val hb rfl h0)
                       · refine Any.owes_plain rfl fun ρ wo hs' hb hc' => ?_
                         have h3 : ρ (.tmp 3) = .int .i64 k := hs'.old' 3 (by kernel_rfl)
                         exact Any.ok_move (Any.post_val hb rfl h3)
                       · refine Any.owes_plain rfl fun ρ wo hs' hb hc' => ?_
                         have h54 : ρ (.tmp 54) = .slice (some ⟨b, off, none⟩) l.length c := hs'.new' 54 0 (by kernel_rfl)
                         have h55 : ρ (.tmp 55) = .int .i64 k := hs'.new' 55 1 (by kernel_rfl)
                         go_simp
                         exact Any.post_val hb rfl rfl
                       · refine Any.owes_plain rfl fun ρ wo hs' hb hc' => ?_
                         have h0 : ρ (.tmp 0) = .slice (some ⟨b, off, none⟩) l.length c := hs'.old' 0 (by kernel_rfl)
                         exact Any.ok_move (Any.post_val hb rfl h0)
                       · refine Any.owes_plain rfl fun ρ wo hs' hb hc' => ?_
                         have h3 : ρ (.tmp 3) = .int .i64 k := hs'.old' 3 (by kernel_rfl)
                         exact Any.ok_move (Any.post_val hb rfl h3)
                       · refine Any.owes_plain rfl fun ρ wo hs' hb hc' => ?_
                         have h57 : ρ (.tmp 57) = .slice (some ⟨b, off, none⟩) l.length c := hs'.new' 57 3 (by kernel_rfl)
                         have h58 : ρ (.tmp 58) = .int .i64 k := hs'.new' 58 4 (by kernel_rfl)
                         go_simp
                         exact Any.post_val hb rfl rfl
                       · refine Any.owes_plain rfl fun ρ wo hs' hb hc' => ?_
                         have h59 : ρ (.tmp 59) = .pointer (some ⟨b, off + k * 5, none⟩) := hs'.new' 59 5 (by kernel_rfl)
                         go_simp
                         exact Any.post_val hb rfl rfl
                       · refine Any.owes_plain rfl fun ρ wo hs' hb hc' => ?_
                         have h60 : ρ (.tmp 60) = .pointer (some ⟨b, off + k * 5, none⟩) := hs'.new' 60 6 (by kernel_rfl)
                         have c0 := (HC.out wo (HBW.out.trans ((below_undrew hb).mono HBW.out.size))).1
                         go_simp
                         exact Any.post_val hb rfl rfl
                       · refine Any.owes_plain rfl fun ρ wo hs' hb hc' => ?_
                         have h0 : ρ (.tmp 0) = .slice (some ⟨b, off, none⟩) l.length c := hs'.old' 0 (by kernel_rfl)
                         exact Any.ok_move (Any.post_val hb rfl h0)
                       · refine Any.owes_plain rfl fun ρ wo hs' hb hc' => ?_
                         have h3 : ρ (.tmp 3) = .int .i64 k := hs'.old' 3 (by kernel_rfl)
                         exact Any.ok_move (Any.post_val hb rfl h3)
                       · refine Any.owes_plain rfl fun ρ wo hs' hb hc' => ?_
                         have h62 : ρ (.tmp 62) = .slice (some ⟨b, off, none⟩) l.length c := hs'.new' 62 8 (by kernel_rfl)
                         have h63 : ρ (.tmp 63) = .int .i64 k := hs'.new' 63 9 (by kernel_rfl)
                         go_simp
                         exact Any.post_val hb rfl rfl
                       · refine Any.owes_plain rfl fun ρ wo hs' hb hc' => ?_
                         have h64 : ρ (.tmp 64) = .pointer (some ⟨b, off + k * 5, none⟩) := hs'.new' 64 10 (by kernel_rfl)
                         go_simp
                         exact Any.post_val hb rfl rfl
                       · refine Any.owes_plain rfl fun ρ wo hs' hb hc' => ?_
                         have h65 : ρ (.tmp 65) = .pointer (some ⟨b, off + k * 5 + 1, none⟩) := hs'.new' 65 11 (by kernel_rfl)
                         have c0 := (HC.out wo (HBW.out.trans ((below_undrew hb).mono HBW.out.size))).2.1
                         go_simp
                         exact Any.post_val hb rfl rfl
                       · refine Any.owes_plain rfl fun ρ wo hs' hb hc' => ?_
                         have h56 : ρ (.tmp 56) = .slice (some ⟨b, off, none⟩) k c := hs'.new' 56 2 (by kernel_rfl)
                         have h61 : ρ (.tmp 61) = .string xc := hs'.new' 61 7 (by kernel_rfl)
                         have h66 : ρ (.tmp 66) = .string xo := hs'.new' 66 12 (by kernel_rfl)
                         have hf := hs'.func 33
                         go_simp
                         exact (HFD.out wo (HBW.out.trans ((below_undrew hb).mono HBW.out.size))).mono fun e w' ⟨he, hb'⟩ => ⟨_, he, Any.post_vals hb rfl rfl hb'⟩
                       · refine Any.owes_plain rfl fun ρ wo hs' hb hc' => ?_
                         have h67 : ρ (.tmp 67) = .int .i64 F := hs'.new' 67 13 (by kernel_rfl)
                         go_simp
                         exact Any.post_val hb rfl rfl
                     · intro vals w4 hb hk ha
                       have h14 : vals 14 = .bool (decide (0 ≤ F)) := hk 14 (by kernel_rfl)
                       have HB4 := Lib.hid (HBW.out.trans (hb.mono HBW.out.size))
                       clear hk ha hb
                       simp only [Any.putAll]
                       go_frame
                       simp only [Nat.zero_add, Nat.reduceAdd]
                       by_cases hF : 0 ≤ F
                       · rw [h14, decide_eq_true hF]
                         have HF5 := Lib.hid hF
                         clear hF
                         go_wp2_with fail
                         go_ret
                         exact ret5 (HTC.out.trans (HT5.out HF5.out)) HB4.out
                       · rw [h14, decide_eq_false hF]
                         have HF5 := Lib.hid hF
                         clear hF
                         go_wp2_with fail
                         go_roundw
                         case rel => exact ⟨k + 1, by omega, by go_num, HTC.out.trans (HT6.out HF5.out), HB4.out⟩
                         case measure => (simp [intOf]) <;> omega
                     )
    · have HQ : Hid (tarCode l = 0) := Lib.hid (by rw [htc, List.drop_of_length_le (by omega)]; rfl)
      clear htc hbel
      go_wp2_with fail
      go_ret
      exact ret5 HQ.out HBW.out
end Go.Proofs.Ytehlhfcaajhhaaa.Sc
