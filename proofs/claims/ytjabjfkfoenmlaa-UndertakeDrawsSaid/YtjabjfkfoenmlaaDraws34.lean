/- The statement UndertakeDraws: what was presented and paid in all is never above the most; what was paid is reimbursed before anything is presented anew; no condition. -/
import Derived.Test.YtjabjfkfoenmlaaScan34
import Derived.Test.YtjabjfkfoenmlaaClone34
namespace Go.Proofs.Ytjabjfkfoenmlaa.undertakeDraws
open Go.ChangeShapes Go.WideShapes Go.ChangeAt Go.RowKit Go Sc
set_option maxRecDepth 100000

set_option maxHeartbeats 4000000 in
theorem walk_no (w : World) (t : Tm) (l : List Ev) (v : Value) (hs : Sl w 4 v (l.map Ev.row)) (h : (t.long || (heavy l 40 || !t.cr.lives)) = true) :
    Calls Try.prog 4 #[.agg t.cells, v] w (RetB w true) := by
  have HX : Hid ((w.alloc (.cells t.cells 23)).heap[w.heap.size]? = some (.cells t.cells 23 (0, 0))) := Lib.hid (heap_alloc_new _ _)
  have HS := Lib.hid (hs.below (one_below w (.cells t.cells 23)) (Nat.le_refl _))
  have LO := Lib.hid (fun W => long_any t W)
  have HE := Lib.hid (fun (W : World) (h : Sl W 4 v (l.map Ev.row)) => heavy_any l 40 v W h)
  have CR := Lib.hid (fun W => credit_any t W)
  clear hs
  cases hlo : t.long
  · cases hhe : heavy l 40
    · have hli : t.cr.lives = false := by simpa [hlo, hhe] using h
      have MA := Lib.hid (fun W => refMay34_any t W hlo)
      rw [hlo] at LO
      rw [hhe] at HE
      rw [hli] at MA
      clear h hlo hhe hli
      go_enter Try.func4, Try.ntmps4
      go_wp2_with (first
        | ((with_reducible refine (awake_any _).mono ?_); rintro e w1 ⟨rfl, hb1⟩; have HX1 := Lib.hid (blk hb1 (lt_blk HX.out) HX.out); have HS1 := Lib.hid (HS.out.below hb1 (Nat.le_refl _)); have HB1 := Lib.hid (below_new hb1); clear hb1)
        | (refine load_tm (.tmp 2) w.heap.size t rfl rfl HX1.out ?_)
        | ((with_reducible refine (LO.out _).mono ?_); rintro e w2 ⟨rfl, hb2⟩; have HX1 := Lib.hid (blk hb2 (lt_blk HX1.out) HX1.out); have HS1 := Lib.hid (HS1.out.below hb2 (Nat.le_refl _)); have HB1 := Lib.hid (below_then HB1.out hb2); clear hb2)
        | ((with_reducible refine (HE.out _ HS1.out).mono ?_); rintro e w3 ⟨rfl, hb3⟩; have HX1 := Lib.hid (blk hb3 (lt_blk HX1.out) HX1.out); have HB1 := Lib.hid (below_then HB1.out hb3); clear hb3)
        | ((with_reducible refine (CR.out _).mono ?_); rintro e w4 ⟨rfl, hb4⟩; have HB1 := Lib.hid (below_then HB1.out hb4); clear hb4)
        | ((with_reducible refine (MA.out _).mono ?_); rintro e w5 ⟨rfl, hb5⟩; have HB1 := Lib.hid (below_then HB1.out hb5); clear hb5)
        | fail)
      go_ret
      exact retB rfl HB1.out
    · rw [hlo] at LO
      rw [hhe] at HE
      clear h hlo hhe
      go_enter Try.func4, Try.ntmps4
      go_wp2_with (first
        | ((with_reducible refine (awake_any _).mono ?_); rintro e w1 ⟨rfl, hb1⟩; have HX1 := Lib.hid (blk hb1 (lt_blk HX.out) HX.out); have HS1 := Lib.hid (HS.out.below hb1 (Nat.le_refl _)); have HB1 := Lib.hid (below_new hb1); clear hb1)
        | (refine load_tm (.tmp 2) w.heap.size t rfl rfl HX1.out ?_)
        | ((with_reducible refine (LO.out _).mono ?_); rintro e w2 ⟨rfl, hb2⟩; have HX1 := Lib.hid (blk hb2 (lt_blk HX1.out) HX1.out); have HS1 := Lib.hid (HS1.out.below hb2 (Nat.le_refl _)); have HB1 := Lib.hid (below_then HB1.out hb2); clear hb2)
        | ((with_reducible refine (HE.out _ HS1.out).mono ?_); rintro e w3 ⟨rfl, hb3⟩; have HX1 := Lib.hid (blk hb3 (lt_blk HX1.out) HX1.out); have HB1 := Lib.hid (below_then HB1.out hb3); clear hb3)
        | fail)
      go_ret
      exact retB rfl HB1.out
  · rw [hlo] at LO
    clear h hlo
    go_enter Try.func4, Try.ntmps4
    go_wp2_with (first
      | ((with_reducible refine (awake_any _).mono ?_); rintro e w1 ⟨rfl, hb1⟩; have HX1 := Lib.hid (blk hb1 (lt_blk HX.out) HX.out); have HS1 := Lib.hid (HS.out.below hb1 (Nat.le_refl _)); have HB1 := Lib.hid (below_new hb1); clear hb1)
      | (refine load_tm (.tmp 2) w.heap.size t rfl rfl HX1.out ?_)
      | ((with_reducible refine (LO.out _).mono ?_); rintro e w2 ⟨rfl, hb2⟩; have HX1 := Lib.hid (blk hb2 (lt_blk HX1.out) HX1.out); have HS1 := Lib.hid (HS1.out.below hb2 (Nat.le_refl _)); have HB1 := Lib.hid (below_then HB1.out hb2); clear hb2)
      | fail)
    go_ret
    exact retB rfl HB1.out

set_option maxHeartbeats 8000000 in
theorem walk_yes (w : World) (t : Tm) (l : List Ev) (v : Value) (hs : Sl w 4 v (l.map Ev.row)) (hlo : t.long = false) (hhe : heavy l 40 = false) (hli : t.cr.lives = true) :
    Calls Try.prog 4 #[.agg t.cells, v] w (RetB w true) := by
  obtain ⟨a, c, rfl⟩ : ∃ a c, v = .slice a l.length c := by simpa using hs.shape
  obtain ⟨w0, hw0⟩ : ∃ x, x = w.alloc (.cells t.cells 23) := ⟨_, rfl⟩
  have HX : Hid (w0.heap[w.heap.size]? = some (.cells t.cells 23 (0, 0))) := Lib.hid (hw0 ▸ heap_alloc_new _ _)
  have HB0 : Hid (Below w.heap.size w w0) := Lib.hid (hw0 ▸ one_below _ _)
  have HS := Lib.hid (hs.below HB0.out (Nat.le_refl _))
  have LO := Lib.hid (fun W => long_any t W)
  have HE := Lib.hid (fun (W : World) (h : Sl W 4 (.slice a l.length c) (l.map Ev.row)) => heavy_any l 40 _ W h)
  have CR := Lib.hid (fun W => credit_any t W)
  have MA := Lib.hid (fun W => refMay34_any t W hlo)
  have NW := Lib.hid (new_yes t.cr hli)
  have HLV := Lib.hid (lives_iff hli)
  have MO := Lib.hid (fun W => refMost_any t.cr W ((bnd_iff t.cr).1 HLV.out.bnd))
  have HL40 : Hid (l.length ≤ 40) := Lib.hid (by have := (heavy_no hhe).1; omega)
  have hl40 : (l.length : Int) ≤ 40 := by have := HL40.out; omega
  rw [hlo] at LO
  rw [hhe] at HE
  rw [hli] at MA
  clear hs hlo hhe hli
  go_enter Try.func4, Try.ntmps4
  go_wp2_with fail
  rw [← hw0]
  clear hw0
  go_wp2_with (first
    | ((with_reducible refine (awake_any _).mono ?_); rintro e w1 ⟨rfl, hb1⟩; have HX1 := Lib.hid (blk hb1 (lt_blk HX.out) HX.out); have HS1 := Lib.hid (HS.out.below hb1 (Nat.le_refl _)); have HB1 := Lib.hid hb1; clear hb1)
    | (refine load_tm (.tmp 2) w.heap.size t rfl rfl HX1.out ?_)
    | ((with_reducible refine (LO.out _).mono ?_); rintro e w2 ⟨rfl, hb2⟩; have HX1 := Lib.hid (blk hb2 (lt_blk HX1.out) HX1.out); have HS1 := Lib.hid (HS1.out.below hb2 (Nat.le_refl _)); have HB1 := Lib.hid (below_then HB1.out hb2); clear hb2)
    | ((with_reducible refine (HE.out _ HS1.out).mono ?_); rintro e w3 ⟨rfl, hb3⟩; have HX1 := Lib.hid (blk hb3 (lt_blk HX1.out) HX1.out); have HB1 := Lib.hid (below_then HB1.out hb3); clear hb3)
    | ((with_reducible refine (CR.out _).mono ?_); rintro e w4 ⟨rfl, hb4⟩; have HX1 := Lib.hid (blk hb4 (lt_blk HX1.out) HX1.out); have HB1 := Lib.hid (below_then HB1.out hb4); clear hb4)
    | ((with_reducible refine (MA.out _).mono ?_); rintro e w5 ⟨rfl, hb5⟩; have HX1 := Lib.hid (blk hb5 (lt_blk HX1.out) HX1.out); have HB1 := Lib.hid (below_then HB1.out hb5); clear hb5)
    | ((with_reducible refine (NW.out _).mono ?_); rintro e w6 ⟨bk, rfl, hb6, F0, hlv6, hF6⟩; have HX6 := Lib.hid (blk hb6 (lt_blk HX1.out) HX1.out); have HB6 := Lib.hid (below_then HB1.out hb6); have HLV6 := Lib.hid hlv6; have HF6 : Hid (∀ k, F0 k → w0.heap.size ≤ k) := Lib.hid (fun k hk => Nat.le_trans HB1.out.size (hF6 k hk)); clear hb6 hlv6 hF6)
    | fail)
  have HSC0 := Lib.hid (fun es => lifeOf_scd HLV.out (tm_bare t) es)
  go_loopw [7] (fun i wr => ∃ (k : Nat) (F : Nat → Prop), k ≤ l.length ∧ i = .int .i64 k ∧ Lv wr 74 F bk (lifeOf t.cr (l.take k)) ∧ (∀ k, F k → w0.heap.size ≤ k) ∧ Below w0.heap.size w0 wr) (fun i _ => l.length - (intOf i).toNat)
  case atStart => exact ⟨0, F0, Nat.zero_le _, rfl, HLV6.out, HF6.out, HB6.out⟩
  case round =>
    obtain ⟨k, F, hk, rfl, hlv, hF, hbel⟩ := hrel
    have HLK := Lib.hid hlv
    have HFK := Lib.hid hF
    have HBK := Lib.hid hbel
    clear hlv hF
    by_cases hlt : k < l.length
    · obtain ⟨b, off, rfl, -, hb, hc⟩ := HS.out.at (i := k) (by simpa using hlt)
      have hr := hc k l[k].row (by simp [hlt])
      have d0 : wr.cell? ⟨b, off + k * 4, none⟩ = some (.int .i64 l[k].kind) := (hbel.cell (p := ⟨b, off + k * 4, none⟩) hb).trans (hr 0 _ rfl)
      have d1 : wr.cell? ⟨b, off + k * 4 + 1, none⟩ = some (.string l[k].party) := (hbel.cell (p := ⟨b, off + k * 4 + 1, none⟩) hb).trans (hr 1 _ rfl)
      have d2 : wr.cell? ⟨b, off + k * 4 + 2, none⟩ = some (.int .i64 l[k].day) := (hbel.cell (p := ⟨b, off + k * 4 + 2, none⟩) hb).trans (hr 2 _ rfl)
      have d3 : wr.cell? ⟨b, off + k * 4 + 3, none⟩ = some (.int .i64 l[k].amt) := (hbel.cell (p := ⟨b, off + k * 4 + 3, none⟩) hb).trans (hr 3 _ rfl)
      have HT := Lib.hid (lifeOf_take t.cr l k hlt)
      have HG : Hid ((lifeOf t.cr (l.take k)).good t.cr) := Lib.hid (lifeOf_good t.cr (l.take k))
      have hln : (lifeOf t.cr (l.take k)).evs.length ≤ 40 ∧ (lifeOf t.cr (l.take k)).paid.length ≤ 40 := by
        have h1 := lifeOf_len t.cr (l.take k)
        have h2 := HL40.out
        simp at h1
        omega
      have DO := Lib.hid (fun W F (h : Lv W 74 F bk (lifeOf t.cr (l.take k))) => doP_any bk _ F l[k] W h HG.out.s0 HG.out.s7 (by omega) (by omega))
      unfold Ev.cells at DO
      clear hr hc hbel hln
      generalize hx : l[k] = x at *
      generalize hlk : lifeOf t.cr (l.take k) = lk at *
      have HG1 : Hid ((lk.step x).2.good t.cr) := Lib.hid (step_good HG.out x)
      generalize hst : lk.step x = st at *
      obtain ⟨cd, l1⟩ := st
      clear hx hlk hst
      go_wp2_with (first
        | ((with_reducible refine (DO.out _ _ HLK.out).mono ?_); intro e w2 h2; obtain ⟨rfl, hb2, F2, hl2, hF2⟩ := after_step HBK.out HFK.out h2; have HB2 := Lib.hid hb2; have HL2 := Lib.hid hl2; have HF2 := Lib.hid hF2; clear hb2 hl2 hF2 h2 d0 d1 d2 d3)
        | fail)
      go_roundw
      case rel => exact ⟨k + 1, F2, by omega, by go_num, by rw [HT.out]; exact HL2.out, HF2.out, HB2.out⟩
      case measure => (simp [intOf]) <;> omega
    · have hkl : k = l.length := by omega
      have HLE := Lib.hid (show Lv wr 74 F bk (lifeOf t.cr l) from by have := HLK.out; rw [List.take_of_length_le (by omega)] at this; exact this)
      have HSC : Hid (Scd t.cr (lifeOf t.cr l)) := Lib.hid (HSC0.out l)
      have HLN : Hid ((lifeOf t.cr l).evs.length ≤ 40) := Lib.hid (by have := lifeOf_len t.cr l; have := HL40.out; omega)
      have HXK := Lib.hid (blk hbel (lt_blk HX.out) HX.out)
      clear hkl hbel HSC0
      generalize lifeOf t.cr l = lk at *
      have HH := Lib.hid (hist_any bk lk F wr HLE.out (by have := HLN.out; omega))
      obtain ⟨wo, hwo⟩ : ∃ x, x = wr := ⟨_, rfl⟩
      rw [← hwo] at HLK HBK HLE HXK HH
      rw [← hwo]
      clear hwo
      go_wp2_with (first
        | ((with_reducible refine HH.out.mono ?_); rintro e w7 ⟨vh, rfl, hown7, hb7⟩; have HSH := Lib.hid (own_evs hown7 rfl); have HX7 := Lib.hid (blk hb7 (lt_blk HXK.out) HXK.out); have HB7 := Lib.hid (HBK.out.trans (hb7.mono HBK.out.size)); have HL7 := Lib.hid (HLE.out.below hb7); clear hown7 hb7)
        | fail)
      obtain ⟨N, hN⟩ : ∃ N, N = lk.evs.length := ⟨_, rfl⟩
      obtain ⟨ah, ch, rfl⟩ : ∃ a c, vh = .slice a N c := by have := HSH.out.shape; rw [List.length_map, ← hN] at this; exact this
      have HNN := Lib.hid hN
      have hN40 : (N : Int) ≤ 40 := by have := HLN.out; omega
      clear hN
      go_loopw [9, 10, 11, 12] (fun p n o i wi => ∃ (q : Nat) (s : Int × Int × Bool), q ≤ N ∧ i = .int .i64 q ∧ p = .int .i64 s.1 ∧ n = .int .i64 s.2.1 ∧ o = .bool s.2.2 ∧ s = scan t.cr.s1 (lk.evs.take q) ∧ Below w7.heap.size w7 wi) (fun _ _ _ i _ => N - (intOf i).toNat)
      case atStart => exact ⟨0, (0, 0, false), Nat.zero_le _, rfl, rfl, rfl, rfl, rfl, Below.refl _ _⟩
      case round =>
        obtain ⟨q, s, hq, rfl, rfl, rfl, rfl, hs, hbi⟩ := hrel
        have HBI := Lib.hid hbi
        by_cases hqN : q < N
        · have hqe : q < lk.evs.length := by have := HNN.out; omega
          obtain ⟨b', off', rfl, -, hb', hc'⟩ := HSH.out.at (i := q) (by simpa using hqe)
          have hr' := hc' q lk.evs[q].row (by simp [hqe])
          have e0 : wr.cell? ⟨b', off' + q * 4, none⟩ = some (.int .i64 lk.evs[q].kind) := (hbi.cell (p := ⟨b', off' + q * 4, none⟩) hb').trans (hr' 0 _ rfl)
          have e1 : wr.cell? ⟨b', off' + q * 4 + 1, none⟩ = some (.string lk.evs[q].party) := (hbi.cell (p := ⟨b', off' + q * 4 + 1, none⟩) hb').trans (hr' 1 _ rfl)
          have e2 : wr.cell? ⟨b', off' + q * 4 + 2, none⟩ = some (.int .i64 lk.evs[q].day) := (hbi.cell (p := ⟨b', off' + q * 4 + 2, none⟩) hb').trans (hr' 2 _ rfl)
          have e3 : wr.cell? ⟨b', off' + q * 4 + 3, none⟩ = some (.int .i64 lk.evs[q].amt) := (hbi.cell (p := ⟨b', off' + q * 4 + 3, none⟩) hb').trans (hr' 3 _ rfl)
          obtain ⟨x0, x1, x2, x3⟩ := tm_load (blk hbi (lt_blk HX7.out) HX7.out)
          have x7 : wr.cell? ⟨w.heap.size, 7, none⟩ = some (.int .i64 t.expiry) := cell_blk (blk hbi (lt_blk HX7.out) HX7.out) 7
          obtain ⟨hok, hlast⟩ := HSC.out.ok q hqe
          rw [← hs] at hok
          have HSS : Hid (scan t.cr.s1 (lk.evs.take (q + 1)) = scanE t.app s lk.evs[q]) := Lib.hid (by rw [scan_take _ _ _ hqe, ← hs]; rfl)
          have hsb := scan_bd t.cr.s1 (lk.evs.take q) (fun e he => HSC.out.amt e (List.mem_of_mem_take he))
          rw [← hs, List.length_take_of_le (by omega)] at hsb
          have hexp : t.cr.expiry = t.expiry := rfl
          rw [hexp] at hok
          have HLT : Hid (lk.evs[q].kind = 7 → q + 1 = N) := Lib.hid (fun h => by have h1 := hlast h; have := HNN.out; omega)
          have hqi : (q : Int) < (N : Int) := by omega
          clear hc' hr' hs hlast hexp
          generalize lk.evs[q] = x at *
          obtain ⟨xk, xp, xd, xa⟩ := x
          obtain ⟨s1, s2, s3⟩ := s
          simp only at e0 e1 e2 e3 hok hsb HLT
          obtain ⟨⟨hs1, hs2⟩, hs3, hs4⟩ := hsb
          have hs5 : s1 ≤ 45079976738816 := by omega
          clear hs2
          obtain ⟨ok2, ok6, ok7⟩ := hok
          simp only at ok2 ok6 ok7
          have HBW : Hid (∀ W, Below wr.heap.size wr W → Below w7.heap.size w7 W) := Lib.hid (fun W h => HBI.out.trans (h.mono HBI.out.size))
          by_cases h2 : xk = 2
          · subst h2
            obtain ⟨o1, o2⟩ := ok2 rfl
            subst o1
            have tx : decide (t.expiry < xd) = false := decide_eq_false (by omega)
            clear ok2 ok6 ok7 o2
            go_wp2_with fail
            go_quiet (fail)
            go_wp2_with fail
            go_roundw
            case rel => exact ⟨q + 1, (s1, xa, false), by omega, by go_num, rfl, rfl, rfl, by rw [HSS.out]; simp [scanE], HBW.out _ (below_drewN (Below.refl _ _) nq)⟩
            case measure => (simp [intOf]) <;> omega
          have t2 : (xk == 2) = false := by simp [h2]
          by_cases h5 : xk = 5
          · subst h5
            clear ok2 ok6 ok7 h2 t2
            go_wp2_with fail
            go_roundw
            case rel => exact ⟨q + 1, (s1 + s2, s2, true), by omega, by go_num, rfl, rfl, rfl, by rw [HSS.out]; simp [scanE], HBI.out⟩
            case measure => (simp [intOf]) <;> omega
          have t5 : (xk == 5) = false := by simp [h5]
          by_cases h6 : xk = 6
          · subst h6
            have o1 := ok6 rfl
            subst o1
            clear ok2 ok6 ok7 h2 t2 h5 t5
            by_cases hpa : xp = t.app
            · have tp := str_yes hpa
              have HPA := Lib.hid hpa
              clear hpa
              go_wp2_with fail
              go_quiet (fail)
              go_wp2_with fail
              go_roundw
              case rel => exact ⟨q + 1, (s1, s2, false), by omega, by go_num, rfl, rfl, rfl, by rw [HSS.out]; simp [scanE, HPA.out], HBW.out _ (below_drewN (Below.refl _ _) nq)⟩
              case measure => (simp [intOf]) <;> omega
            · have tp := str_no hpa
              have HPA := Lib.hid hpa
              clear hpa
              go_wp2_with fail
              go_quiet (fail)
              go_wp2_with fail
              go_roundw
              case rel => exact ⟨q + 1, (s1, s2, true), by omega, by go_num, rfl, rfl, rfl, by rw [HSS.out]; simp [scanE, HPA.out], HBW.out _ (below_drewN (Below.refl _ _) nq)⟩
              case measure => (simp [intOf]) <;> omega
          have t6 : (xk == 6) = false := by simp [h6]
          by_cases h7 : xk = 7
          · subst h7
            obtain ⟨o1, o2⟩ := ok7 rfl
            subst o1
            have tx : decide (xd ≤ t.expiry) = false := decide_eq_false (by omega)
            obtain rfl : N = q + 1 := by have := HLT.out rfl; omega
            clear ok2 ok6 ok7 h2 t2 h5 t5 h6 t6 o2
            go_wp2_with fail
            go_quiet (fail)
            go_wp2_with fail
            go_roundw
            case rel => exact ⟨q + 1, (s1, s2, false), by omega, by go_num, rfl, rfl, rfl, by rw [HSS.out]; simp [scanE], HBW.out _ (below_drewN (Below.refl _ _) nq)⟩
            case measure => (simp [intOf]) <;> omega
          have t7 : (xk == 7) = false := by simp [h7]
          have HSE : Hid (scanE t.app (s1, s2, s3) ⟨xk, xp, xd, xa⟩ = (s1, s2, s3)) := Lib.hid (by simp [scanE, h2, h5, h6])
          clear ok2 ok6 ok7 h2 h5 h6 h7
          go_wp2_with fail
          go_roundw
          case rel => exact ⟨q + 1, (s1, s2, s3), by omega, by go_num, rfl, rfl, rfl, by rw [HSS.out, HSE.out], HBI.out⟩
          case measure => (simp [intOf]) <;> omega
        · have hs' : s = scan t.cr.s1 lk.evs := by rw [hs, List.take_of_length_le (by have := HNN.out; omega)]
          have h1 : s.1 = dsum lk.paid := by rw [hs']; exact HSC.out.sum
          have h2 : s.2.2 = decide (lk.st = 5) := by rw [hs']; exact HSC.out.opn
          have h3 : s.1 ≤ t.cr.most := by rw [h1]; exact HSC.out.most
          have HXI := Lib.hid (blk hbi (lt_blk HX7.out) HX7.out)
          obtain ⟨vp, ve, hlw⟩ := HL7.out.below hbi
          have SS := Lib.hid (fun W (h : Below wr.heap.size wr W) => state_any bk lk vp ve W (hlw.below h).box)
          have HBX := Lib.hid (HB7.out.trans (hbi.mono HB7.out.size))
          obtain ⟨s1, s2, s3⟩ := s
          simp only at h1 h2 h3
          have tm : decide (s1 ≤ t.cr.most) = true := decide_eq_true h3
          clear hs hs' h1 h3 hlw hbi
          generalize t.cr.most = mo at *
          generalize lk.st = sv at *
          subst h2
          by_cases h5 : sv = 5
          · subst h5
            go_wp2_with (first
              | (refine load_tm (.tmp 2) w.heap.size t rfl rfl HXI.out ?_)
              | ((with_reducible refine (CR.out _).mono ?_); rintro e w8 ⟨rfl, hb8⟩; have HB8 := Lib.hid hb8; clear hb8)
              | ((with_reducible refine (MO.out _).mono ?_); rintro e w9 ⟨rfl, hb9⟩; have HB8 := Lib.hid (below_then HB8.out hb9); clear hb9)
              | ((with_reducible refine (SS.out _ HB8.out).mono ?_); rintro e w9 ⟨rfl, hb9⟩; have HB8 := Lib.hid (below_then HB8.out hb9); clear hb9)
              | fail)
            go_ret
            exact retB (by simp) (HB0.out.trans ((HBX.out.trans (HB8.out.mono HBX.out.size)).mono HB0.out.size))
          · have s5 : (sv == 5) = false := by simp [h5]
            have s55 : decide (sv = 5) = false := decide_eq_false h5
            rw [s55]
            clear h5 s55
            go_wp2_with (first
              | (refine load_tm (.tmp 2) w.heap.size t rfl rfl HXI.out ?_)
              | ((with_reducible refine (CR.out _).mono ?_); rintro e w8 ⟨rfl, hb8⟩; have HB8 := Lib.hid hb8; clear hb8)
              | ((with_reducible refine (MO.out _).mono ?_); rintro e w9 ⟨rfl, hb9⟩; have HB8 := Lib.hid (below_then HB8.out hb9); clear hb9)
              | ((with_reducible refine (SS.out _ HB8.out).mono ?_); rintro e w9 ⟨rfl, hb9⟩; have HB8 := Lib.hid (below_then HB8.out hb9); clear hb9)
              | fail)
            go_ret
            exact retB (by simp) (HB0.out.trans ((HBX.out.trans (HB8.out.mono HBX.out.size)).mono HB0.out.size))
theorem walk (w : World) (t : Tm) (_ht : t.fit) (l : List Ev) (v : Value) (hs : Sl w 4 v (l.map Ev.row)) (_hf : ∀ e ∈ l, e.fit) : Calls Try.prog 4 #[.agg t.cells, v] w (RetB w true) := by
  cases hlo : t.long <;> cases hhe : heavy l 40 <;> cases hli : t.cr.lives
  case false.false.true => exact walk_yes w t l v hs hlo hhe hli
  all_goals exact walk_no w t l v hs (by simp [hlo, hhe, hli])

theorem lifted (os : Os) (started : os.Started) (H : Type) (enc : TypeId × Value → H) :
    ReturnsInHanded {} Try.checked os 4 .any (Rows.undertakeDrawsSpec.pre6 enc Try.prog Try.f4 Rows.undertakeDrawsRow.domain false) (Rows.undertakeDrawsSpec.post enc Try.prog Try.f4 false true false false) := by
  refine law_lifted os started (by kernel_rfl) Try.func4
    (ChangeSpec.witness6 (enc := enc) (C := Try.checked) false ⟨#[], #[.agg #[.string ⟨#[]⟩, .string ⟨#[]⟩, .string ⟨#[]⟩, .string ⟨#[]⟩, .int .i64 0, .int .i64 0, .int .i64 0, .int .i64 0, .bool false], .slice none 0 0], []⟩ 8 (by kernel_rfl) (by kernel_rfl) (by kernel_rfl) (by kernel_rfl))
    (by kernel_rfl) rfl rfl ?_ ?_
  · intro vs ds W p hA
    rw [Try.params4] at hA
    obtain ⟨v0, vs0, d0, ds0, p0, q0, rfl, rfl, rfl, h0, r0⟩ := trodAll_cons hA
    obtain ⟨v1, vs1, d1, ds1, p1, q1, rfl, rfl, rfl, h1, r1⟩ := trodAll_cons r0
    obtain ⟨rfl, rfl, rfl⟩ := trodAll_nil r1
    rfl
  · intro W base args ds p hval hA
    rw [Try.params4] at hA hval
    obtain ⟨v0, vs0, d0, ds0, p0, q0, hargs, rfl, rfl, h0, r0⟩ := trodAll_cons hA
    obtain ⟨v1, vs1, d1, ds1, p1, q1, rfl, rfl, rfl, h1, r1⟩ := trodAll_cons r0
    obtain ⟨rfl, rfl, rfl⟩ := trodAll_nil r1
    obtain rfl : args = #[v0, v1] := by cases args; simp_all
    obtain ⟨t0, rfl, w0⟩ := open_terms (hval 0 23 v0 rfl rfl) h0
    obtain ⟨l1, hs1, hf1⟩ := open_evs (hval 1 24 v1 rfl rfl) h1
    exact walk W t0 w0 l1 v1 hs1 hf1

theorem over : Rows.undertakeDrawsRow.holds Try.pinned (OpenSpec.ofChange Rows.undertakeDrawsSpec) :=
  OpenClaim.holds_of_wide 4 Try.f4 rfl rfl rfl rfl rfl rfl rfl ⟨rfl, rfl, rfl, rfl, rfl⟩ rfl rfl rfl rfl rfl (by kernel_rfl) Try.func4 (by kernel_rfl)
    (of_decide_eq_true (by kernel_rfl)) (by unfold Func.isWrapper; rw [if_neg (by decide +kernel)]; exact ⟨rfl, rfl⟩)
    (fun os started H enc _ => lifted os started H enc)

/-- The statement. -/
theorem proved : Rows.UndertakeDrawsSaid := over
#print axioms proved
end Go.Proofs.Ytjabjfkfoenmlaa.undertakeDraws
