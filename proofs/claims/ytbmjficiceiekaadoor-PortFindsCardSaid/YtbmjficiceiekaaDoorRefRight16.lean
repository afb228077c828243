/- The reference's Right. -/
import Derived.Test.YtbmjficiceiekaaDoorRight16
import Derived.Test.YtbmjficiceiekaaDoorRefMay16
namespace Go.Proofs.YtbmjficiceiekaaDoor.Sc
open Go Go.RowKit Go.ChangeShapes Go.WideShapes Go.ChangeAt
set_option maxRecDepth 100000

theorem held_any (n : Int) (w : World) : Calls Tryd.prog 34 #[.int .i64 n] w (Ret w (.int .i64 (heldN n))) := by
  have HD : Hid (heldN n = if n < 0 then 0 else if 1048576 < n then 1048576 else n) := Lib.hid rfl
  by_cases h1 : n < 0
  · have t1 : decide (n < 0) = true := decide_eq_true h1
    rw [if_pos h1] at HD
    clear h1
    go_enter Tryd.func34, Tryd.ntmps34
    go_wp2_with fail
    go_ret
    exact ⟨by rw [HD.out]; rfl, Below.refl _ _⟩
  have t1 : decide (n < 0) = false := decide_eq_false h1
  rw [if_neg h1] at HD
  by_cases h2 : 1048576 < n
  · have t2 : decide (1048576 < n) = true := decide_eq_true h2
    rw [if_pos h2] at HD
    clear h1 h2
    go_enter Tryd.func34, Tryd.ntmps34
    go_wp2_with fail
    go_ret
    exact ⟨by rw [HD.out]; rfl, Below.refl _ _⟩
  have t2 : decide (1048576 < n) = false := decide_eq_false h2
  rw [if_neg h2] at HD
  clear h1 h2
  go_enter Tryd.func34, Tryd.ntmps34
  go_wp2_with fail
  go_ret
  exact ⟨by rw [HD.out]; rfl, Below.refl _ _⟩
theorem legAt_empty {V : List Vm} {x : Li} {vo : Nat} {v : Vm} (hv : V[vo]? = some v) (hx : x.voy = (vo : Int)) (h : v.calls = []) : legAt V x = none := by
  unfold legAt
  split
  · rw [hx, Int.toNat_natCast, hv, Option.bind_some, h]
    rfl
  · rfl
theorem clean_get {l : List Vm} {vo : Nat} (h : vo < l.length) : (l.map cleanV)[vo]? = some (cleanV l[vo]) := by rw [List.getElem?_map, List.getElem?_eq_getElem h]; rfl
theorem clean_may {v : Vm} (h : mayV v.ship v.calls = true) : cleanV v = v := by rw [cleanV, if_pos h]
theorem clean_not {v : Vm} (h : mayV v.ship v.calls = false) : (cleanV v).calls = [] := by rw [cleanV, h]; rfl
set_option maxHeartbeats 8000000 in
theorem refRight_any (l : List Vm) (vl : Value) (ls : List Li) (vg : Value) (fr tp : ByteArray) (ready ch : Int) (w : World) (hs : VsAt w vl l) (hg : Sl w 3 vg (ls.map Li.row)) (hf : ∀ x ∈ l, x.fit) :
    Calls Tryd.prog 17 #[vl, vg, .string fr, .string tp, .int .i64 ready, .int .i64 ch] w (RetB w (rightR (l.map cleanV) ls fr tp ready (heldN ch))) := by
  have hll : ls.length ≤ 9223372036854775807 := by have := hg.len_le; simp only [List.length_map, maxLen] at this; omega
  have hvl9 : l.length ≤ 9223372036854775807 := by have := hs.1.len_le; simp only [List.length_map, maxLen] at this; omega
  obtain ⟨ag, cg, rfl⟩ : ∃ a c, vg = .slice a ls.length c := by simpa using hg.shape
  obtain ⟨al, cl, rfl⟩ : ∃ a c, vl = .slice a l.length c := by simpa using hs.1.shape
  by_cases hft : fr = tp
  · have s1 : (fr.toList == tp.toList) = true := by rw [str_beq, decide_eq_true hft]
    rw [rightR_same hft]
    clear hs hg hft
    go_enter Tryd.func17, Tryd.ntmps17
    go_wp2_with fail
    go_ret
    exact ⟨rfl, Below.refl _ _⟩
  have s1 : (fr.toList == tp.toList) = false := by rw [str_beq, decide_eq_false hft]
  by_cases h1 : ls.length < 1
  · have t1 : decide ((ls.length : Int) < 1) = true := decide_eq_true (by omega)
    have t1' : decide (ls.length < 1) = true := decide_eq_true h1
    rw [rightR_short (.inl h1)]
    clear hs hg hft h1
    go_enter Tryd.func17, Tryd.ntmps17
    go_wp2_with fail
    go_ret
    exact ⟨rfl, Below.refl _ _⟩
  have t1 : decide ((ls.length : Int) < 1) = false := decide_eq_false (by omega)
  have t1' : decide (ls.length < 1) = false := decide_eq_false h1
  by_cases h2 : 8 < ls.length
  · have t2 : decide ((8 : Int) < (ls.length : Int)) = true := decide_eq_true (by omega)
    have t2' : decide (8 < ls.length) = true := decide_eq_true h2
    rw [rightR_short (.inr h2)]
    clear hs hg hft h1 h2
    go_enter Tryd.func17, Tryd.ntmps17
    go_wp2_with fail
    go_ret
    exact ⟨rfl, Below.refl _ _⟩
  have t2 : decide ((8 : Int) < (ls.length : Int)) = false := decide_eq_false (by omega)
  have t2' : decide (8 < ls.length) = false := decide_eq_false h2
  rw [rightR_is hft h1 h2]
  have hl8 : ls.length ≤ 8 := by omega
  have HS := Lib.hid hs
  have HG := Lib.hid hg
  have HF := Lib.hid hf
  obtain ⟨V, hV⟩ : ∃ V, V = l.map cleanV := ⟨_, rfl⟩
  obtain ⟨cn, hcn⟩ : ∃ cn, cn = heldN ch := ⟨_, rfl⟩
  have HCN : Hid (0 ≤ cn ∧ cn ≤ 1048576) := Lib.hid (by rw [hcn]; exact held_range ch)
  have HVO : Hid (VOk V) := Lib.hid (by rw [hV]; exact clean_ok l)
  have HHD := Lib.hid (fun W => held_any ch W)
  rw [← hcn] at HHD
  have HVD := Lib.hid hV
  rw [← hV, ← hcn]
  clear hs hg hft h1 h2 hV hcn
  go_enter Tryd.func17, Tryd.ntmps17
  go_wp2_with fail
  clear t1 t1' t2 t2' s1
  go_loopw [13, 14, 15, 16, 17] (fun p r i _ _ wr => ∃ (k : Nat) (q : ByteArray) (rq : Int), k ≤ ls.length ∧ i = .int .i64 k ∧ p = .string q ∧ r = .int .i64 rq ∧ goS V cn ls (fr, ready) = goS V cn (ls.drop k) (q, rq) ∧ Below w.heap.size w wr) (fun _ _ i _ _ _ => ls.length - (intOf i).toNat)
  case atStart => exact ⟨0, fr, ready, Nat.zero_le _, rfl, rfl, rfl, rfl, Below.refl _ _⟩
  case round =>
    obtain ⟨k, q, rq, hk, rfl, rfl, rfl, hgo, hbel⟩ := hrel
    have HBR := Lib.hid hbel
    clear hbel
    by_cases hlt : k < ls.length
    · rw [goS_next hlt] at hgo
      have HGO := Lib.hid hgo
      have hki : ((k : Nat) : Int) < (ls.length : Int) := by omega
      have HKL := Lib.hid hlt
      obtain ⟨bg, og, rfl, hbg, hp⟩ := li_at HG.out hlt
      obtain ⟨d0, d1, d2⟩ := hp.below hbg HBR.out
      generalize ls[k] = x at *
      obtain ⟨xv, xf, xt⟩ := x
      simp only at d0 d1 d2
      have HNO : Hid (legAt V ⟨xv, xf, xt⟩ = none → goS V cn ls (fr, ready) = none) := Lib.hid (fun h => by rw [HGO.out, stepS_none h]; rfl)
      have HBX := Lib.hid (HBR.out.alloc HBR.out.size (.cells #[.int .i64 xv, .int .i64 xf, .int .i64 xt] 37))
      have HXX := Lib.hid (heap_alloc_new wr (.cells #[.int .i64 xv, .int .i64 xf, .int .i64 xt] 37))
      clear hgo hp hbg hk
      by_cases hv0 : xv < 0
      · have t1 : decide (xv < 0) = true := decide_eq_true hv0
        have HN := Lib.hid (HNO.out (legAt_voy (fun h => by have := h.1; simp only at this; omega)))
        clear hv0
        go_wp2_with fail
        go_ret
        exact retB (by rw [HN.out]; rfl) HBX.out
      have t1 : decide (xv < 0) = false := decide_eq_false hv0
      obtain ⟨vo, rfl⟩ : ∃ n : Nat, xv = (n : Int) := ⟨xv.toNat, by omega⟩
      by_cases hvl : l.length ≤ vo
      · have t2 : decide ((l.length : Int) ≤ (vo : Int)) = true := decide_eq_true (by omega)
        have t2' : decide (l.length ≤ vo) = true := decide_eq_true hvl
        have HN := Lib.hid (HNO.out (legAt_voy (fun h => by have := h.2; rw [HVD.out, List.length_map] at this; simp only at this; omega)))
        clear hv0 hvl
        go_wp2_with fail
        go_ret
        exact retB (by rw [HN.out]; rfl) HBX.out
      have t2 : decide ((l.length : Int) ≤ (vo : Int)) = false := decide_eq_false (by omega)
      have t2' : decide (l.length ≤ vo) = false := decide_eq_false hvl
      have hvl : vo < l.length := by omega
      have hvi : (vo : Int) < (l.length : Int) := by omega
      have HVG : Hid (V[vo]? = some (cleanV l[vo])) := Lib.hid (by rw [HVD.out]; exact clean_get hvl)
      obtain ⟨bv, ov, rfl, hbvl, e0, e1, hcs⟩ := vs_at HS.out hvl
      have HFX := HF.out _ (List.getElem_mem hvl)
      have HCS := Lib.hid hcs
      have HMY := Lib.hid (fun W (hW : Below w.heap.size w W) => refMayP_any l[vo].ship l[vo].val l[vo].calls W (hcs.below hW (Nat.le_refl _)) HFX.1 HFX.2)
      have HE := Lib.hid (fun W (hW : Below w.heap.size w W) => And.intro ((hW.cell (p := ⟨bv, ov + vo * 2, none⟩) hbvl).trans e0) ((hW.cell (p := ⟨bv, ov + vo * 2 + 1, none⟩) hbvl).trans e1))
      obtain ⟨e0, e1⟩ := HE.out wr HBR.out
      have lv : bv < wr.heap.size := Nat.lt_of_lt_of_le hbvl HBR.out.size
      clear hcs HFX hbvl
      generalize hlv : l[vo] = v at *
      obtain ⟨sh, val, cs⟩ := v
      simp only at HMY HE HCS e0 e1
      obtain ⟨ac, cc, rfl⟩ : ∃ a c, val = .slice a cs.length c := by simpa using HCS.out.shape
      cases hmay : mayV sh cs with
      | false =>
        rw [hmay] at HMY
        have HN := Lib.hid (HNO.out (legAt_empty HVG.out rfl (clean_not hmay)))
        clear hv0 hvl hlv hmay
        go_wp2_with (first
          | ((with_reducible refine (HMY.out _ HBX.out).mono ?_); rintro e w4 ⟨rfl, hb4⟩; have HB4 := Lib.hid (HBX.out.trans (hb4.mono HBX.out.size)); clear hb4)
          | fail)
        go_ret
        exact retB (by rw [HN.out]; rfl) HB4.out
      | true =>
        rw [hmay] at HMY
        have HVG : Hid (V[vo]? = some ⟨sh, .slice ac cs.length cc, cs⟩) := Lib.hid (by rw [HVG.out, clean_may hmay])
        have hcl : cs.length ≤ 9223372036854775807 := by have := HCS.out.len_le; simp only [List.length_map, maxLen] at this; omega
        clear hv0 hvl hlv hmay
        by_cases hf0 : xf < 0
        · have t3 : decide (xf < 0) = true := decide_eq_true hf0
          have HN := Lib.hid (HNO.out (legAt_no (fun h => by have := h.1; simp only at this; omega)))
          clear hf0
          go_wp2_with (first
            | ((with_reducible refine (HMY.out _ HBX.out).mono ?_); rintro e w4 ⟨rfl, hb4⟩; have HB4 := Lib.hid (HBX.out.trans (hb4.mono HBX.out.size)); have HX4 := Lib.hid (blk hb4 (lt_blk HXX.out) HXX.out); obtain ⟨y0, y1, y2⟩ := li_box (x := ⟨vo, xf, xt⟩) HX4.out; have z1 := (HE.out w4 HB4.out).2; clear hb4)
            | fail)
          go_ret
          exact retB (by rw [HN.out]; rfl) HB4.out
        have t3 : decide (xf < 0) = false := decide_eq_false hf0
        obtain ⟨lf, rfl⟩ : ∃ n : Nat, xf = (n : Int) := ⟨xf.toNat, by omega⟩
        by_cases hft : xt ≤ (lf : Int)
        · have t4 : decide (xt ≤ (lf : Int)) = true := decide_eq_true hft
          have HN := Lib.hid (HNO.out (legAt_no (fun h => by have := h.2; simp only at this; omega)))
          clear hf0 hft
          go_wp2_with (first
            | ((with_reducible refine (HMY.out _ HBX.out).mono ?_); rintro e w4 ⟨rfl, hb4⟩; have HB4 := Lib.hid (HBX.out.trans (hb4.mono HBX.out.size)); have HX4 := Lib.hid (blk hb4 (lt_blk HXX.out) HXX.out); obtain ⟨y0, y1, y2⟩ := li_box (x := ⟨vo, lf, xt⟩) HX4.out; have z1 := (HE.out w4 HB4.out).2; clear hb4)
            | fail)
          go_ret
          exact retB (by rw [HN.out]; rfl) HB4.out
        obtain ⟨lt, rfl⟩ : ∃ n : Nat, xt = (n : Int) := ⟨xt.toNat, by omega⟩
        have t4 : decide ((lt : Int) ≤ (lf : Int)) = false := decide_eq_false hft
        have t4' : decide (lt ≤ lf) = false := decide_eq_false (by omega)
        by_cases htl : cs.length ≤ lt
        · have t5 : decide ((cs.length : Int) ≤ (lt : Int)) = true := decide_eq_true (by omega)
          have t5' : decide (cs.length ≤ lt) = true := decide_eq_true htl
          have HN := Lib.hid (HNO.out (legAt_long HVG.out rfl (fun h => by simp only at h; omega)))
          clear hf0 hft htl
          go_wp2_with (first
            | ((with_reducible refine (HMY.out _ HBX.out).mono ?_); rintro e w4 ⟨rfl, hb4⟩; have HB4 := Lib.hid (HBX.out.trans (hb4.mono HBX.out.size)); have HX4 := Lib.hid (blk hb4 (lt_blk HXX.out) HXX.out); obtain ⟨y0, y1, y2⟩ := li_box (x := ⟨vo, lf, lt⟩) HX4.out; have z1 := (HE.out w4 HB4.out).2; clear hb4)
            | fail)
          go_ret
          exact retB (by rw [HN.out]; rfl) HB4.out
        have t5 : decide ((cs.length : Int) ≤ (lt : Int)) = false := decide_eq_false (by omega)
        have t5' : decide (cs.length ≤ lt) = false := decide_eq_false htl
        have hll1 : lf < cs.length := by omega
        have hll2 : lt < cs.length := by omega
        have HLEG : Hid (legAt V ⟨(vo : Int), (lf : Int), (lt : Int)⟩ = some (cs[lf], cs[lt])) := Lib.hid (legAt_is HVG.out rfl (by omega) hll2)
        have HARR : Hid (0 ≤ cs[lt].arr ∧ cs[lt].arr ≤ 1048576) := Lib.hid (by
          have h := legAt_some HLEG.out
          exact arrC_ok HVO.out h.2.2.2)
        obtain ⟨bc, oc, rfl, hbc, hpf⟩ := cl_at HCS.out hll1
        obtain ⟨bc', oc', he', hbc', hpt⟩ := cl_at HCS.out hll2
        simp only [Option.some.injEq, Addr.mk.injEq, and_true] at he'
        obtain ⟨rfl, rfl⟩ := he'
        have HPF := Lib.hid (fun W (hW : Below w.heap.size w W) => hpf.below hbc hW)
        have HPT := Lib.hid (fun W (hW : Below w.heap.size w W) => hpt.below hbc hW)
        have hfi : (lf : Int) < (cs.length : Int) := by omega
        have hti : (lt : Int) < (cs.length : Int) := by omega
        have HSY := Lib.hid (fun h => stepS_yes (ch := cn) (q := q) (r := rq) HLEG.out h)
        have HSN := Lib.hid (fun h => stepS_no (ch := cn) (q := q) (r := rq) HLEG.out h)
        clear hpf hpt hbc hbc' hf0 hft htl
        generalize cs[lf] = c at *
        generalize cs[lt] = e at *
        obtain ⟨cp, cu, ca, cd⟩ := c
        obtain ⟨ep, eu, ea, ed⟩ := e
        clear hll1 hll2
        generalize cs.length = n at *
        simp only [ClAt] at HPF HPT HSY HSN HARR
        by_cases hq : ¬ cp = q
        · have t6 : (cp.toList == q.toList) = false := by rw [str_beq, decide_eq_false hq]
          have HN : Hid (goS V cn ls (fr, ready) = none) := Lib.hid (by rw [HGO.out, HSN.out (fun h => hq h.1)]; rfl)
          clear hq
          go_wp2_with (first
            | ((with_reducible refine (HMY.out _ HBX.out).mono ?_); rintro e w4 ⟨rfl, hb4⟩; have HB4 := Lib.hid (HBX.out.trans (hb4.mono HBX.out.size)); have HX4 := Lib.hid (blk hb4 (lt_blk HXX.out) HXX.out); obtain ⟨y0, y1, y2⟩ := li_box (x := ⟨vo, lf, lt⟩) HX4.out; have z1 := (HE.out w4 HB4.out).2; obtain ⟨f0, f1, f2, f3⟩ := HPF.out w4 HB4.out; clear hb4)
            | fail)
          go_ret
          exact retB (by rw [HN.out]; rfl) HB4.out
        have hq := Decidable.not_not.1 hq
        have t6 : (cp.toList == q.toList) = true := by rw [str_beq, decide_eq_true hq]
        by_cases hu : cu < rq
        · have t7 : decide (cu < rq) = true := decide_eq_true hu
          have HN : Hid (goS V cn ls (fr, ready) = none) := Lib.hid (by rw [HGO.out, HSN.out (fun h => by have := h.2; omega)]; rfl)
          clear hq hu
          go_wp2_with (first
            | ((with_reducible refine (HMY.out _ HBX.out).mono ?_); rintro e w4 ⟨rfl, hb4⟩; have HB4 := Lib.hid (HBX.out.trans (hb4.mono HBX.out.size)); have HX4 := Lib.hid (blk hb4 (lt_blk HXX.out) HXX.out); obtain ⟨y0, y1, y2⟩ := li_box (x := ⟨vo, lf, lt⟩) HX4.out; have z1 := (HE.out w4 HB4.out).2; obtain ⟨f0, f1, f2, f3⟩ := HPF.out w4 HB4.out; clear hb4)
            | fail)
          go_ret
          exact retB (by rw [HN.out]; rfl) HB4.out
        · have t7 : decide (cu < rq) = false := decide_eq_false hu
          have HN : Hid (goS V cn ls (fr, ready) = goS V cn (ls.drop (k + 1)) (ep, ea + cn)) := Lib.hid (by rw [HGO.out, HSY.out ⟨hq, by omega⟩]; rfl)
          have HSM : Hid (IntKind.i64.wrap (ea + cn) = ea + cn) := Lib.hid (IntWalk.i64_in _ (by have := HARR.out; have := HCN.out; omega))
          clear hq hu
          go_wp2_with (first
            | ((with_reducible refine (HMY.out _ HBX.out).mono ?_); rintro e w4 ⟨rfl, hb4⟩; have HB4 := Lib.hid (HBX.out.trans (hb4.mono HBX.out.size)); have HX4 := Lib.hid (blk hb4 (lt_blk HXX.out) HXX.out); obtain ⟨y0, y1, y2⟩ := li_box (x := ⟨vo, lf, lt⟩) HX4.out; have z1 := (HE.out w4 HB4.out).2; obtain ⟨f0, f1, f2, f3⟩ := HPF.out w4 HB4.out; obtain ⟨g0, g1, g2, g3⟩ := HPT.out w4 HB4.out; clear hb4)
            | fail)
          obtain ⟨b16, hb16⟩ : ∃ b16, b16 = wr.heap.size := ⟨_, rfl⟩
          rw [← hb16] at HX4 ⊢
          clear hb16 y0 y1 y2 f0 f1 f2 f3 g0 g1 g2 g3 z1
          have HQ : Hid (∀ W, Below w4.heap.size w4 W → W.cell? ⟨b16, 2, none⟩ = some (.int .i64 (lt : Int)) ∧ W.cell? ⟨bc, oc + lt * 4 + 2, none⟩ = some (.int .i64 ea)) := Lib.hid (fun W hW => ⟨cell_blk (blk hW (lt_blk HX4.out) HX4.out) 2, (HPT.out W (HB4.out.trans (hW.mono HB4.out.size))).2.2.1⟩)
          refine Any.region_lit (fun
            | 0 => Any.val (.slice (some ⟨bc, oc, none⟩) n cc)
            | 1 => Any.val (.pointer (some ⟨b16, 2, none⟩))
            | 2 => Any.val (.int .i64 (lt : Int))
            | 3 => Any.val (.pointer (some ⟨bc, oc + lt * 4, none⟩))
            | 4 => Any.val (.pointer (some ⟨bc, oc + lt * 4 + 2, none⟩))
            | 5 => Any.val (.int .i64 ea)
            | 6 => Any.val (.int .i64 ch)
            | 7 => Any.val (.int .i64 cn)
            | 8 => Any.val (.int .i64 (ea + cn))
            | 9 => Any.val (.int .i64 (ea + cn))
            | _ => Any.idle) (by kernel_rfl) (by kernel_rfl) (by kernel_rfl) ?_ ?_ ?_
          · intro i _
            match i with
            | 0 => exact Any.lasts_val _
            | 1 => exact Any.lasts_val _
            | 2 => exact Any.lasts_val _
            | 3 => exact Any.lasts_val _
            | 4 => exact Any.lasts_val _
            | 5 => exact Any.lasts_val _
            | 6 => exact Any.lasts_val _
            | 7 => exact Any.lasts_val _
            | 8 => exact Any.lasts_val _
            | 9 => exact Any.lasts_val _
            | n + 10 => exact Any.lasts_idle
          · refine ⟨?_, ?_, ?_, ?_, ?_, ?_, ?_, ?_, ?_, ?_, trivial⟩
            · refine Any.owes_plain rfl fun ρ wo hs' hb hc' => ?_
              have h17 : ρ (.tmp 17) = .slice (some ⟨bc, oc, none⟩) n cc := hs'.old' 17 (by kernel_rfl)
              exact Any.ok_move (Any.post_val hb rfl h17)
            · refine Any.owes_plain rfl fun ρ wo hs' hb hc' => ?_
              have h16 : ρ (.tmp 16) = .pointer (some ⟨b16, 0, none⟩) := hs'.old' 16 (by kernel_rfl)
              go_simp
              exact Any.post_val hb rfl rfl
            · refine Any.owes_plain rfl fun ρ wo hs' hb hc' => ?_
              have h112 : ρ (.tmp 112) = .pointer (some ⟨b16, 2, none⟩) := hs'.new' 112 1 (by kernel_rfl)
              have c0 := (HQ.out wo (below_undrew hb)).1
              go_simp
              exact Any.post_val hb rfl rfl
            · refine Any.owes_plain rfl fun ρ wo hs' hb hc' => ?_
              have h111 : ρ (.tmp 111) = .slice (some ⟨bc, oc, none⟩) n cc := hs'.new' 111 0 (by kernel_rfl)
              have h113 : ρ (.tmp 113) = .int .i64 (lt : Int) := hs'.new' 113 2 (by kernel_rfl)
              go_simp
              exact Any.post_val hb rfl rfl
            · refine Any.owes_plain rfl fun ρ wo hs' hb hc' => ?_
              have h114 : ρ (.tmp 114) = .pointer (some ⟨bc, oc + lt * 4, none⟩) := hs'.new' 114 3 (by kernel_rfl)
              go_simp
              exact Any.post_val hb rfl rfl
            · refine Any.owes_plain rfl fun ρ wo hs' hb hc' => ?_
              have h115 : ρ (.tmp 115) = .pointer (some ⟨bc, oc + lt * 4 + 2, none⟩) := hs'.new' 115 4 (by kernel_rfl)
              have c0 := (HQ.out wo (below_undrew hb)).2
              go_simp
              exact Any.post_val hb rfl rfl
            · refine Any.owes_plain rfl fun ρ wo hs' hb hc' => ?_
              have h5 : ρ (.tmp 5) = .int .i64 ch := hs'.old' 5 (by kernel_rfl)
              exact Any.ok_move (Any.post_val hb rfl h5)
            · refine Any.owes_plain rfl fun ρ wo hs' hb hc' => ?_
              have h117 : ρ (.tmp 117) = .int .i64 ch := hs'.new' 117 6 (by kernel_rfl)
              have hf := hs'.func 34
              go_simp
              exact (HHD.out wo).mono fun e w' ⟨he, hb'⟩ => ⟨_, he, Any.post_vals hb rfl rfl hb'⟩
            · refine Any.owes_plain rfl fun ρ wo hs' hb hc' => ?_
              have h116 : ρ (.tmp 116) = .int .i64 ea := hs'.new' 116 5 (by kernel_rfl)
              have h118 : ρ (.tmp 118) = .int .i64 cn := hs'.new' 118 7 (by kernel_rfl)
              have s1 := HSM.out
              go_simp
              exact Any.post_val hb rfl rfl
            · refine Any.owes_plain rfl fun ρ wo hs' hb hc' => ?_
              have h119 : ρ (.tmp 119) = .int .i64 (ea + cn) := hs'.new' 119 8 (by kernel_rfl)
              exact Any.ok_assign (Any.post_val hb rfl h119)
          intro vals w6 hb hk ha
          have h9 : vals 9 = .int .i64 (ea + cn) := hk 9 (by kernel_rfl)
          have HB6 := Lib.hid hb
          clear hk ha hb
          simp only [Any.putAll]
          go_frame
          simp only [Nat.zero_add, Nat.reduceAdd]
          rw [h9]
          clear h9
          go_wp2_with fail
          go_roundw
          case rel => exact ⟨k + 1, ep, ea + cn, HKL.out, by go_num, rfl, rfl, HN.out, HB4.out.trans (HB6.out.mono HB4.out.size)⟩
          case measure => have := HKL.out; (simp [intOf]) <;> omega
    · have HN : Hid (goS V cn ls (fr, ready) = some (q, rq)) := Lib.hid (by rw [hgo, List.drop_eq_nil_of_le (by omega)]; rfl)
      have hki : ¬ ((k : Nat) : Int) < (ls.length : Int) := by omega
      have t3 := str_beq q tp
      clear hgo hlt
      go_wp2_with fail
      go_ret
      exact retB (by rw [HN.out]; rfl) HBR.out
end Go.Proofs.YtbmjficiceiekaaDoor.Sc
