/- port.Right. -/
import Derived.Test.YtbmjficiceiekaaDoorIsLeg16
import Derived.StillTailTactics
namespace Go.Proofs.YtbmjficiceiekaaDoor.Sc
open Go Go.RowKit Go.ChangeShapes Go.WideShapes Go.ChangeAt
set_option maxRecDepth 100000

theorem rightR_same {V : List Vm} {ls : List Li} {fr tp : ByteArray} {ready ch : Int} (h : fr = tp) : rightR V ls fr tp ready ch = false := by simp [rightR, h]
theorem rightR_short {V : List Vm} {ls : List Li} {fr tp : ByteArray} {ready ch : Int} (h : ls.length < 1 ∨ 8 < ls.length) : rightR V ls fr tp ready ch = false := by
  unfold rightR
  rcases h with h | h
  · rw [decide_eq_false (show ¬ 1 ≤ ls.length by omega)]; simp
  · rw [decide_eq_false (show ¬ ls.length ≤ 8 by omega)]; simp
theorem rightR_is {V : List Vm} {ls : List Li} {fr tp : ByteArray} {ready ch : Int} (h : ¬ fr = tp) (h1 : ¬ ls.length < 1) (h2 : ¬ 8 < ls.length) : rightR V ls fr tp ready ch = endsAt (goS V ch ls (fr, ready)) tp := by
  rw [rightR, decide_eq_false h, decide_eq_true (show 1 ≤ ls.length by omega), decide_eq_true (show ls.length ≤ 8 by omega)]
  rfl
theorem goS_next {V : List Vm} {ch : Int} {ls : List Li} {k : Nat} (h : k < ls.length) (st : ByteArray × Int) : goS V ch (ls.drop k) st = (stepS V ch st ls[k]).bind (goS V ch (ls.drop (k + 1))) := by
  rw [List.drop_eq_getElem_cons h]; rfl
theorem stepS_none {V : List Vm} {ch : Int} {st : ByteArray × Int} {x : Li} (h : legAt V x = none) : stepS V ch st x = none := by rw [stepS, h]; rfl
theorem stepS_no {V : List Vm} {ch : Int} {q : ByteArray} {r : Int} {x : Li} {c e : Cl} (h : legAt V x = some (c, e)) (hn : ¬ (c.port = q ∧ r ≤ c.cut)) : stepS V ch (q, r) x = none := by
  rw [stepS, h, Option.bind_some, if_neg hn]
theorem stepS_yes {V : List Vm} {ch : Int} {q : ByteArray} {r : Int} {x : Li} {c e : Cl} (h : legAt V x = some (c, e)) (hn : c.port = q ∧ r ≤ c.cut) : stepS V ch (q, r) x = some (e.port, e.arr + ch) := by
  rw [stepS, h, Option.bind_some, if_pos hn]
set_option maxHeartbeats 8000000 in
theorem right_any (l : List Vm) (vl : Value) (ls : List Li) (vg : Value) (fr tp : ByteArray) (ready ch : Int) (w : World) (hs : VsAt w vl l) (hg : Sl w 3 vg (ls.map Li.row)) (hl : l.length ≤ 4000) :
    Calls Tryd.prog 27 #[vl, vg, .string fr, .string tp, .int .i64 ready, .int .i64 ch] w (RetB w (rightR (l.map cleanV) ls fr tp ready (heldN ch))) := by
  have hll : ls.length ≤ 9223372036854775807 := by have := hg.len_le; simp only [List.length_map, maxLen] at this; omega
  obtain ⟨ag, cg, rfl⟩ : ∃ a c, vg = .slice a ls.length c := by simpa using hg.shape
  by_cases hft : fr = tp
  · have s1 : (fr.toList == tp.toList) = true := by rw [str_beq, decide_eq_true hft]
    rw [rightR_same hft]
    clear hs hg hft
    go_enter Tryd.func27, Tryd.ntmps27
    go_wp2_with fail
    go_ret
    exact ⟨rfl, Below.refl _ _⟩
  have s1 : (fr.toList == tp.toList) = false := by rw [str_beq, decide_eq_false hft]
  by_cases h1 : ls.length < 1
  · have t1 : decide ((ls.length : Int) < 1) = true := decide_eq_true (by omega)
    have t1' : decide (ls.length < 1) = true := decide_eq_true h1
    rw [rightR_short (.inl h1)]
    clear hs hg hft h1
    go_enter Tryd.func27, Tryd.ntmps27
    go_wp2_with fail
    go_ret
    exact ⟨rfl, Below.refl _ _⟩
  have t1 : decide ((ls.length : Int) < 1) = false := decide_eq_false (by omega)
  have t1' : decide (ls.length < 1) = false := decide_eq_false h1
  by_cases h2 : 8 < ls.length
  · have t2 : decide ((8 : Int) < (ls.length : Int)) = true := decide_eq_true (by omega)
    have t2' : decide (8 < ls.length) = true := decide_eq_true h2
    rw [rightR_short (.inr h2)]
    clear hs hg hft h1 h2
    go_enter Tryd.func27, Tryd.ntmps27
    go_wp2_with fail
    go_ret
    exact ⟨rfl, Below.refl _ _⟩
  have t2 : decide ((8 : Int) < (ls.length : Int)) = false := decide_eq_false (by omega)
  have t2' : decide (8 < ls.length) = false := decide_eq_false h2
  rw [rightR_is hft h1 h2]
  have hl8 : ls.length ≤ 8 := by omega
  have HST := Lib.hid (start_any l vl fr ch w hs hl)
  have HS := Lib.hid hs
  have HG := Lib.hid hg
  obtain ⟨V, hV⟩ : ∃ V, V = l.map cleanV := ⟨_, rfl⟩
  obtain ⟨cn, hcn⟩ : ∃ cn, cn = heldN ch := ⟨_, rfl⟩
  have HCN : Hid (0 ≤ cn ∧ cn ≤ 1048576) := Lib.hid (by rw [hcn]; exact held_range ch)
  have HVO : Hid (VOk V) := Lib.hid (by rw [hV]; exact clean_ok l)
  have HVD := Lib.hid (And.intro hV hcn)
  rw [← hV, ← hcn]
  clear hs hg hft h1 h2 hV hcn
  go_enter Tryd.func27, Tryd.ntmps27
  go_wp2_with (first
    | ((with_reducible refine HST.out.mono ?_); rintro e w1 ⟨vv, rfl, ho1, hb1⟩
       have HVS : Hid (VsAt w1 vv V) := Lib.hid (by rw [HVD.out.1]; exact start_vs HS.out ho1 hb1)
       have HB1 := Lib.hid hb1
       rw [← HVD.out.2]
       obtain ⟨av, cv, rfl⟩ : ∃ a c, vv = .slice a V.length c := by simpa using HVS.out.1.shape
       simp only [seaC]
       clear ho1 hb1)
    | fail)
  obtain ⟨w2, hw2⟩ : ∃ w2, w2 = w1.alloc (.cells #[.slice av V.length cv, .string fr, .int .i64 cn] 52) := ⟨_, rfl⟩
  have H13 : Hid (w2.heap[w1.heap.size]? = some (.cells #[.slice av V.length cv, .string fr, .int .i64 cn] 52 (0, 0))) := Lib.hid (by rw [hw2]; exact heap_alloc_new _ _)
  have HB2 : Hid (Below w.heap.size w w2) := Lib.hid (by rw [hw2]; exact HB1.out.alloc HB1.out.size _)
  have HV2 : Hid (VsAt w2 (.slice av V.length cv) V) := Lib.hid (by rw [hw2]; exact HVS.out.below (one_below _ _))
  rw [← hw2]
  obtain ⟨b13, hb13⟩ : ∃ b13, b13 = w1.heap.size := ⟨_, rfl⟩
  rw [← hb13] at H13 ⊢
  clear hw2 hb13 t1 t1' t2 t2' s1
  go_loopw [4, 14, 16, 17, 18, 39] (fun r p _ _ _ i wr => ∃ (k : Nat) (q : ByteArray) (rq : Int), k ≤ ls.length ∧ i = .int .i64 k ∧ p = .string q ∧ r = .int .i64 rq ∧ goS V cn ls (fr, ready) = goS V cn (ls.drop k) (q, rq) ∧ Below w2.heap.size w2 wr) (fun _ _ _ _ _ i _ => ls.length - (intOf i).toNat)
  case atStart => exact ⟨0, fr, ready, Nat.zero_le _, rfl, rfl, rfl, rfl, Below.refl _ _⟩
  case round =>
    obtain ⟨k, q, rq, hk, rfl, rfl, rfl, hgo, hbel⟩ := hrel
    have HBR := Lib.hid hbel
    have H13R := Lib.hid (blk hbel (lt_blk H13.out) H13.out)
    have p0 := cell_blk H13R.out 0
    have p1 := cell_blk H13R.out 1
    have p2 := cell_blk H13R.out 2
    have l13 := lt_blk H13R.out
    clear hbel
    by_cases hlt : k < ls.length
    · rw [goS_next hlt] at hgo
      have HGO := Lib.hid hgo
      have hki : ((k : Nat) : Int) < (ls.length : Int) := by omega
      have HKL := Lib.hid hlt
      obtain ⟨bg, og, rfl, hbg, hp⟩ := li_at HG.out hlt
      obtain ⟨d0, d1, d2⟩ := hp.below hbg (HB2.out.trans (HBR.out.mono HB2.out.size))
      have HIL := Lib.hid (fun W (hW : Below w2.heap.size w2 W) => isLeg_any V _ fr cn ls[k] W (HV2.out.below hW))
      generalize ls[k] = x at *
      simp only [Li.cells, seaC] at HIL
      clear hgo hp hbg hk
      cases hleg : legAt V x with
      | none =>
        rw [hleg] at HIL
        have HN : Hid (goS V cn ls (fr, ready) = none) := Lib.hid (by rw [HGO.out, stepS_none hleg]; rfl)
        obtain ⟨xv, xf, xt⟩ := x
        simp only at d0 d1 d2 HIL
        have HBX := Lib.hid (HBR.out.alloc HBR.out.size (.cells #[.int .i64 xv, .int .i64 xf, .int .i64 xt] 37))
        clear hleg
        go_wp2_with (first
          | ((with_reducible refine (HIL.out _ HBX.out).mono ?_); rintro e w4 ⟨rfl, hb4⟩; have HB4 := Lib.hid (HBX.out.trans (hb4.mono HBX.out.size)); clear hb4)
          | fail)
        go_ret
        exact retB (by rw [HN.out]; rfl) (HB2.out.trans (HB4.out.mono HB2.out.size))
      | some ce =>
        obtain ⟨c, e⟩ := ce
        rw [hleg] at HIL
        obtain ⟨h0, hx, hc, he⟩ := legAt_some hleg
        have HLEG := Lib.hid hleg
        have HARR := Lib.hid (arrC_ok HVO.out he)
        have HAR := Lib.hid (fun W (hW : Below w2.heap.size w2 W) => arrive_any V _ fr cn x.lg e W (HV2.out.below hW) he)
        obtain ⟨v, hv, h3, h4⟩ := hx
        obtain ⟨hvl, rfl⟩ := List.getElem?_eq_some_iff.1 hv
        rw [frC, hv, Option.bind_some] at hc
        rw [arrC, hv, Option.bind_some] at he
        obtain ⟨hlf, hcc⟩ := List.getElem?_eq_some_iff.1 hc
        obtain ⟨bv, ov, hbv, hbvl, e0, e1, hcs⟩ := vs_at HV2.out hvl
        subst hbv
        obtain ⟨ac, cc, hcv⟩ : ∃ a c, V[x.lg.voy].val = .slice a V[x.lg.voy].calls.length c := by simpa using hcs.shape
        rw [hcv] at e1 hcs
        obtain ⟨bc, oc, hbc, hbcl, hpc⟩ := cl_at hcs hlf
        subst hbc
        rw [hcc] at hpc
        have HE1 := Lib.hid (fun W (hW : Below w2.heap.size w2 W) => (hW.cell (p := ⟨bv, ov + x.lg.voy * 2 + 1, none⟩) hbvl).trans e1)
        have HPC := Lib.hid (fun W (hW : Below w2.heap.size w2 W) => hpc.below hbcl hW)
        have hll2 : V[x.lg.voy].calls.length ≤ 9223372036854775807 := by have := hcs.len_le; simp only [List.length_map, maxLen] at this; omega
        have hVL : V.length ≤ 9223372036854775807 := by have := HV2.out.1.len_le; simp only [List.length_map, maxLen] at this; omega
        clear hcc hc hcs e0 e1 hpc hbvl hbcl
        have hlf' : x.lg.fr < V[x.lg.voy].calls.length := hlf
        clear hlf
        generalize hnn : V[x.lg.voy].calls.length = n at *
        obtain ⟨xv, xf, xt⟩ := x
        obtain ⟨vo, rfl⟩ : ∃ m : Nat, xv = (m : Int) := ⟨xv.toNat, by have := h0.1; simp only at this; omega⟩
        obtain ⟨lf, rfl⟩ : ∃ m : Nat, xf = (m : Int) := ⟨xf.toNat, by have := h0.2.1; simp only at this; omega⟩
        obtain ⟨lt, rfl⟩ : ∃ m : Nat, xt = (m : Int) := ⟨xt.toNat, by have := h0.2; simp only at this; omega⟩
        simp only [Li.lg, Int.toNat_natCast, Lg.cells, seaC] at d0 d1 d2 HIL HE1 HPC HAR hvl hlf' h3 h4 hcv
        have hvi : (vo : Int) < (V.length : Int) := by omega
        have hfi : (lf : Int) < (n : Int) := by omega
        clear hv he h0 hleg hnn h4 h3
        obtain ⟨cp, cu, ca, cd⟩ := c
        obtain ⟨ep, eu, ea, ed⟩ := e
        simp only [ClAt, Cl.cells] at HPC HAR HARR
        have HBX := Lib.hid (HBR.out.alloc HBR.out.size (.cells #[.int .i64 (vo : Int), .int .i64 (lf : Int), .int .i64 (lt : Int)] 37))
        have HXX := Lib.hid (heap_alloc_new wr (.cells #[.int .i64 (vo : Int), .int .i64 (lf : Int), .int .i64 (lt : Int)] 37))
        have HSY := Lib.hid (fun h => stepS_yes (ch := cn) (q := q) (r := rq) HLEG.out h)
        have HSN := Lib.hid (fun h => stepS_no (ch := cn) (q := q) (r := rq) HLEG.out h)
        simp only at HSY HSN
        go_wp2_with (first
          | ((with_reducible refine (HIL.out _ HBX.out).mono ?_); rintro e w4 ⟨rfl, hb4⟩; have HB4 := Lib.hid (HBX.out.trans (hb4.mono HBX.out.size))
             have HX4 := Lib.hid (blk hb4 (lt_blk HXX.out) HXX.out); have H134 := Lib.hid (blk HB4.out (lt_blk H13.out) H13.out); have HE4 := Lib.hid (HE1.out w4 HB4.out); have HP4 := Lib.hid (HPC.out w4 HB4.out); clear hb4 p0 p1 p2 l13)
          | fail)
        clear d0 d1 d2
        obtain ⟨b16, hb16⟩ : ∃ b16, b16 = wr.heap.size := ⟨_, rfl⟩
        rw [← hb16] at HX4 ⊢
        clear hb16
        have HQ : Hid (∀ W, Below w4.heap.size w4 W → W.cell? ⟨b13, 0, none⟩ = some (.slice (some ⟨bv, ov, none⟩) V.length cv) ∧ W.cell? ⟨b16, 0, none⟩ = some (.int .i64 (vo : Int)) ∧ W.cell? ⟨bv, ov + vo * 2 + 1, none⟩ = some (.slice (some ⟨bc, oc, none⟩) n cc) ∧ W.cell? ⟨b16, 1, none⟩ = some (.int .i64 (lf : Int)) ∧
            (W.cell? ⟨bc, oc + lf * 4, none⟩ = some (.string cp) ∧ W.cell? ⟨bc, oc + lf * 4 + 1, none⟩ = some (.int .i64 cu) ∧ W.cell? ⟨bc, oc + lf * 4 + 2, none⟩ = some (.int .i64 ca) ∧ W.cell? ⟨bc, oc + lf * 4 + 3, none⟩ = some (.int .i64 cd))) := Lib.hid (fun W hW => by
          have h1 := blk hW (lt_blk H134.out) H134.out
          have h2 := blk hW (lt_blk HX4.out) HX4.out
          have h3 := HB4.out.trans (hW.mono HB4.out.size)
          exact ⟨cell_blk h1 0, cell_blk h2 0, HE1.out W h3, cell_blk h2 1, HPC.out W h3⟩)
        refine Ord.region_lit (fun
          | 0 => Ord.val (.pointer (some ⟨b13, 0, none⟩))
          | 1 => Ord.val (.slice (some ⟨bv, ov, none⟩) V.length cv)
          | 2 => Ord.val (.pointer (some ⟨b16, 0, none⟩))
          | 3 => Ord.val (.int .i64 (vo : Int))
          | 4 => Ord.val (.pointer (some ⟨bv, ov + vo * 2, none⟩))
          | 5 => Ord.val (.pointer (some ⟨bv, ov + vo * 2 + 1, none⟩))
          | 6 => Ord.val (.slice (some ⟨bc, oc, none⟩) n cc)
          | 7 => Ord.val (.pointer (some ⟨b16, 1, none⟩))
          | 8 => Ord.val (.int .i64 (lf : Int))
          | 9 => Ord.val (.pointer (some ⟨bc, oc + lf * 4, none⟩))
          | 10 => Ord.val (.agg #[.string cp, .int .i64 cu, .int .i64 ca, .int .i64 cd])
          | 11 => Ord.box 39 #[.string ⟨#[]⟩, .int .i64 0, .int .i64 0, .int .i64 0]
          | 12 => Ord.filled 39 #[.string cp, .int .i64 cu, .int .i64 ca, .int .i64 cd] (.tmp 17) 11
          | _ => Ord.idle) (fun _ => False) (by kernel_rfl) (by kernel_rfl) (by kernel_rfl) ?_ ?_ ?_ ?_
        · intro i _
          match i with
          | 0 => exact Ord.lasts_val _
          | 1 => exact Ord.lasts_val _
          | 2 => exact Ord.lasts_val _
          | 3 => exact Ord.lasts_val _
          | 4 => exact Ord.lasts_val _
          | 5 => exact Ord.lasts_val _
          | 6 => exact Ord.lasts_val _
          | 7 => exact Ord.lasts_val _
          | 8 => exact Ord.lasts_val _
          | 9 => exact Ord.lasts_val _
          | 10 => exact Ord.lasts_val _
          | 11 => exact Ord.lasts_box _ _
          | 12 => exact Ord.lasts_filled _ _ _ _
          | n + 13 => exact Ord.lasts_idle
        · refine ⟨fun k b _ hh => ?_, fun k b _ hh => ?_, fun k k' b _ _ hne h1 h2 => ?_⟩
          · match k, hh with
            | 0, hh => exact hh.elim
            | 1, hh => exact hh.elim
            | 2, hh => exact hh.elim
            | 3, hh => exact hh.elim
            | 4, hh => exact hh.elim
            | 5, hh => exact hh.elim
            | 6, hh => exact hh.elim
            | 7, hh => exact hh.elim
            | 8, hh => exact hh.elim
            | 9, hh => exact hh.elim
            | 10, hh => exact hh.elim
            | 11, hh => exact hh.elim
            | 12, hh => exact hh.elim
            | m + 13, hh => exact hh.elim
          · match k, hh with
            | 0, hh => exact hh.elim
            | 1, hh => exact hh.elim
            | 2, hh => exact hh.elim
            | 3, hh => exact hh.elim
            | 4, hh => exact hh.elim
            | 5, hh => exact hh.elim
            | 6, hh => exact hh.elim
            | 7, hh => exact hh.elim
            | 8, hh => exact hh.elim
            | 9, hh => exact hh.elim
            | 10, hh => exact hh.elim
            | 11, hh => exact hh.elim
            | 12, hh => exact hh.elim
            | m + 13, hh => exact hh.elim
          · match k, h1 with
            | 0, hh => exact hh.elim
            | 1, hh => exact hh.elim
            | 2, hh => exact hh.elim
            | 3, hh => exact hh.elim
            | 4, hh => exact hh.elim
            | 5, hh => exact hh.elim
            | 6, hh => exact hh.elim
            | 7, hh => exact hh.elim
            | 8, hh => exact hh.elim
            | 9, hh => exact hh.elim
            | 10, hh => exact hh.elim
            | 11, hh => exact hh.elim
            | 12, hh => exact hh.elim
            | m + 13, hh => exact hh.elim
        · refine ⟨?_, ?_, ?_, ?_, ?_, ?_, ?_, ?_, ?_, ?_, ?_, ?_, ?_, trivial⟩
          · refine Ord.owes_plain rfl fun ρ Os wo hs' hb hc' => ?_
            have h13 : ρ (.tmp 13) = .pointer (some ⟨b13, 0, none⟩) := hs'.old' 13 (by kernel_rfl)
            go_simp
            exact Ord.post_val rfl rfl
          · refine Ord.owes_plain rfl fun ρ Os wo hs' hb hc' => ?_
            have h47 : ρ (.tmp 47) = .pointer (some ⟨b13, 0, none⟩) := hs'.val' 47 0 (by kernel_rfl) rfl
            have c0 := (HQ.out wo (hb.undrew.below (Nat.le_refl _) (fun _ _ h => h))).1
            go_simp
            exact Ord.post_val rfl rfl
          · refine Ord.owes_plain rfl fun ρ Os wo hs' hb hc' => ?_
            have h16 : ρ (.tmp 16) = .pointer (some ⟨b16, 0, none⟩) := hs'.old' 16 (by kernel_rfl)
            go_simp
            exact Ord.post_val rfl rfl
          · refine Ord.owes_plain rfl fun ρ Os wo hs' hb hc' => ?_
            have h49 : ρ (.tmp 49) = .pointer (some ⟨b16, 0, none⟩) := hs'.val' 49 2 (by kernel_rfl) rfl
            have c0 := (HQ.out wo (hb.undrew.below (Nat.le_refl _) (fun _ _ h => h))).2.1
            go_simp
            exact Ord.post_val rfl rfl
          · refine Ord.owes_plain rfl fun ρ Os wo hs' hb hc' => ?_
            have h48 : ρ (.tmp 48) = .slice (some ⟨bv, ov, none⟩) V.length cv := hs'.val' 48 1 (by kernel_rfl) rfl
            have h50 : ρ (.tmp 50) = .int .i64 (vo : Int) := hs'.val' 50 3 (by kernel_rfl) rfl
            go_simp
            exact Ord.post_val rfl rfl
          · refine Ord.owes_plain rfl fun ρ Os wo hs' hb hc' => ?_
            have h51 : ρ (.tmp 51) = .pointer (some ⟨bv, ov + vo * 2, none⟩) := hs'.val' 51 4 (by kernel_rfl) rfl
            go_simp
            exact Ord.post_val rfl rfl
          · refine Ord.owes_plain rfl fun ρ Os wo hs' hb hc' => ?_
            have h52 : ρ (.tmp 52) = .pointer (some ⟨bv, ov + vo * 2 + 1, none⟩) := hs'.val' 52 5 (by kernel_rfl) rfl
            have c0 := (HQ.out wo (hb.undrew.below (Nat.le_refl _) (fun _ _ h => h))).2.2.1
            go_simp
            exact Ord.post_val rfl rfl
          · refine Ord.owes_plain rfl fun ρ Os wo hs' hb hc' => ?_
            have h16 : ρ (.tmp 16) = .pointer (some ⟨b16, 0, none⟩) := hs'.old' 16 (by kernel_rfl)
            go_simp
            exact Ord.post_val rfl rfl
          · refine Ord.owes_plain rfl fun ρ Os wo hs' hb hc' => ?_
            have h54 : ρ (.tmp 54) = .pointer (some ⟨b16, 1, none⟩) := hs'.val' 54 7 (by kernel_rfl) rfl
            have c0 := (HQ.out wo (hb.undrew.below (Nat.le_refl _) (fun _ _ h => h))).2.2.2.1
            go_simp
            exact Ord.post_val rfl rfl
          · refine Ord.owes_plain rfl fun ρ Os wo hs' hb hc' => ?_
            have h53 : ρ (.tmp 53) = .slice (some ⟨bc, oc, none⟩) n cc := hs'.val' 53 6 (by kernel_rfl) rfl
            have h55 : ρ (.tmp 55) = .int .i64 (lf : Int) := hs'.val' 55 8 (by kernel_rfl) rfl
            go_simp
            exact Ord.post_val rfl rfl
          · refine Ord.owes_plain rfl fun ρ Os wo hs' hb hc' => ?_
            have h56 : ρ (.tmp 56) = .pointer (some ⟨bc, oc + lf * 4, none⟩) := hs'.val' 56 9 (by kernel_rfl) rfl
            obtain ⟨c0, c1, c2, c3⟩ := (HQ.out wo (hb.undrew.below (Nat.le_refl _) (fun _ _ h => h))).2.2.2.2
            go_simp
            exact Ord.post_val rfl rfl
          · refine Ord.owes_plain rfl fun ρ Os wo hs' hb hc' => ?_
            go_simp
            exact Ord.post_box rfl
          · refine Ord.owes_plain rfl fun ρ Os wo hs' hb hc' => ?_
            have h57 : ρ (.tmp 57) = .agg #[.string cp, .int .i64 cu, .int .i64 ca, .int .i64 cd] := hs'.val' 57 10 (by kernel_rfl) rfl
            exact Ord.ok_filled (hs'.new' 17 11 (by kernel_rfl)) h57 (by kernel_rfl) rfl (by simp [Value.oneCell']) rfl
        intro vals Os ρs w6 hk hkn hln hap hbd
        obtain ⟨bg, hp8, hbg, -⟩ := hkn 12 (by kernel_rfl)
        have h11 : vals 11 = .pointer (some ⟨bg, 0, none⟩) := (hln 12 17 11 (by kernel_rfl)).symm.trans hp8
        have hbb : Below w4.heap.size w4 w6 := hk.below (Nat.le_refl _) (fun _ _ h => h)
        have HG6 := Lib.hid hbg
        have HB6 := Lib.hid hbb
        clear hk hkn hln hap hbd hp8 hbg hbb
        simp only [Any.putAll]
        go_frame
        simp only [Nat.zero_add, Nat.reduceAdd]
        rw [h11]
        clear h11
        have HX6 := Lib.hid (blk HB6.out (lt_blk HX4.out) HX4.out)
        have H136 := Lib.hid (blk HB6.out (lt_blk H134.out) H134.out)
        have HBW6 := Lib.hid (HB4.out.trans (HB6.out.mono HB4.out.size))
        obtain ⟨g0, g1, g2, g3⟩ := cl_box (x := ⟨cp, cu, ca, cd⟩) HG6.out
        simp only at g0 g1 g2 g3
        by_cases hq : cp = q
        · have t3 : (cp.toList == q.toList) = true := by rw [str_beq, decide_eq_true hq]
          by_cases hu : cu < rq
          · have t4 : decide (cu < rq) = true := decide_eq_true hu
            have HN : Hid (goS V cn ls (fr, ready) = none) := Lib.hid (by rw [HGO.out, HSN.out (fun h => by have := h.2; omega)]; rfl)
            clear hq hu
            go_wp2_with fail
            go_ret
            exact retB (by rw [HN.out]; rfl) (HB2.out.trans (HBW6.out.mono HB2.out.size))
          · have t4 : decide (cu < rq) = false := decide_eq_false hu
            have HN : Hid (goS V cn ls (fr, ready) = goS V cn (ls.drop (k + 1)) (ep, ea + cn)) := Lib.hid (by rw [HGO.out, HSY.out ⟨hq, by omega⟩]; rfl)
            obtain ⟨p0, p1, p2⟩ := And.intro (cell_blk H136.out 0) (And.intro (cell_blk H136.out 1) (cell_blk H136.out 2))
            obtain ⟨y0, y1, y2⟩ := lg_box (x := ⟨vo, lf, lt⟩) HX6.out
            simp only at y0 y1 y2
            clear hq hu
            go_wp2_with (first
              | ((with_reducible refine (HAR.out _ HBW6.out).mono ?_); rintro e w7 ⟨rfl, hb7⟩
                 have H18 := Lib.hid (heap_alloc_new w7 (.cells #[.string ep, .int .i64 eu, .int .i64 ea, .int .i64 ed] 39))
                 have HB8 := Lib.hid (HBW6.out.trans ((hb7.trans ((one_below w7 (.cells #[.string ep, .int .i64 eu, .int .i64 ea, .int .i64 ed] 39)).mono hb7.size)).mono HBW6.out.size))
                 have H138 := Lib.hid (blk HB8.out (lt_blk H13.out) H13.out); clear hb7 p0 p1 p2 y0 y1 y2)
              | fail)
            obtain ⟨w8, hw8⟩ : ∃ w8, w8 = w7.alloc (.cells #[.string ep, .int .i64 eu, .int .i64 ea, .int .i64 ed] 39) := ⟨_, rfl⟩
            rw [← hw8] at H18 HB8 H138 ⊢
            clear hw8
            obtain ⟨k0, k1, k2, k3⟩ := cl_box (x := ⟨ep, eu, ea, ed⟩) H18.out
            simp only at k0 k1 k2 k3
            have p2 := cell_blk H138.out 2
            obtain ⟨a0, a1⟩ := HARR.out
            obtain ⟨a2, a3⟩ := HCN.out
            have s1 : IntKind.i64.wrap (ea + cn) = ea + cn := IntWalk.i64_in _ (by omega)
            go_quiet (fail)
            go_wp2_with fail
            go_roundw
            case rel => exact ⟨k + 1, ep, ea + cn, HKL.out, by go_num, rfl, by first | rfl | rw [s1], HN.out, below_drewN HB8.out _⟩
            case measure => have := HKL.out; (simp [intOf]) <;> omega
        · have t3 : (cp.toList == q.toList) = false := by rw [str_beq, decide_eq_false hq]
          have HN : Hid (goS V cn ls (fr, ready) = none) := Lib.hid (by rw [HGO.out, HSN.out (fun h => hq h.1)]; rfl)
          clear hq
          go_wp2_with fail
          go_ret
          exact retB (by rw [HN.out]; rfl) (HB2.out.trans (HBW6.out.mono HB2.out.size))
    · have HN : Hid (goS V cn ls (fr, ready) = some (q, rq)) := Lib.hid (by rw [hgo, List.drop_eq_nil_of_le (by omega)]; rfl)
      have hki : ¬ ((k : Nat) : Int) < (ls.length : Int) := by omega
      have t3 := str_beq q tp
      clear hgo hlt
      go_wp2_with fail
      go_ret
      exact retB (by rw [HN.out]; rfl) (HB2.out.trans (HBR.out.mono HB2.out.size))
end Go.Proofs.YtbmjficiceiekaaDoor.Sc
