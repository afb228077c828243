/- The statement UndertakeOwes: whatever happens, at each step at most one of the four owes anything, just when it is honoured or paid, and at most the most; no condition. -/
import Derived.Test.YtjabjfkfoenmlaaInv34
namespace Go.Proofs.Ytjabjfkfoenmlaa.undertakeOwes
open Go.ChangeShapes Go.WideShapes Go.ChangeAt Go.RowKit Go Sc
set_option maxRecDepth 100000

set_option maxHeartbeats 4000000 in
theorem walk_no (w : World) (t : Tm) (l : List Ev) (v : Value) (hs : Sl w 4 v (l.map Ev.row)) (h : (t.long || (heavy l 40 || !t.cr.lives)) = true) :
    Calls Try.prog 3 #[.agg t.cells, v] w (RetB w true) := by
  have HX : Hid ((w.alloc (.cells t.cells 23)).heap[w.heap.size]? = some (.cells t.cells 23 (0, 0))) := Lib.hid (heap_alloc_new _ _)
  have HS := Lib.hid (hs.below (one_below w (.cells t.cells 23)) (Nat.le_refl _))
  have LO := Lib.hid (fun W => long_any t W)
  have HE := Lib.hid (fun (W : World) (h : Sl W 4 v (l.map Ev.row)) => heavy_any l 40 v W h)
  have CR := Lib.hid (fun W => credit_any t W)
  clear hs
  cases hlo : t.long
  · cases hhe : heavy l 40
    · have hli : t.cr.lives = false := by simpa [hlo, hhe] using h
      have MA := Lib.hid (fun W => refMay34_any t W hlo)
      rw [hlo] at LO
      rw [hhe] at HE
      rw [hli] at MA
      clear h hlo hhe hli
      go_enter Try.func3, Try.ntmps3
      go_wp2_with (first
        | ((with_reducible refine (awake_any _).mono ?_); rintro e w1 ⟨rfl, hb1⟩; have HX1 := Lib.hid (blk hb1 (lt_blk HX.out) HX.out); have HS1 := Lib.hid (HS.out.below hb1 (Nat.le_refl _)); have HB1 := Lib.hid (below_new hb1); clear hb1)
        | (refine load_tm (.tmp 2) w.heap.size t rfl rfl HX1.out ?_)
        | ((with_reducible refine (LO.out _).mono ?_); rintro e w2 ⟨rfl, hb2⟩; have HX1 := Lib.hid (blk hb2 (lt_blk HX1.out) HX1.out); have HS1 := Lib.hid (HS1.out.below hb2 (Nat.le_refl _)); have HB1 := Lib.hid (below_then HB1.out hb2); clear hb2)
        | ((with_reducible refine (HE.out _ HS1.out).mono ?_); rintro e w3 ⟨rfl, hb3⟩; have HX1 := Lib.hid (blk hb3 (lt_blk HX1.out) HX1.out); have HB1 := Lib.hid (below_then HB1.out hb3); clear hb3)
        | ((with_reducible refine (CR.out _).mono ?_); rintro e w4 ⟨rfl, hb4⟩; have HB1 := Lib.hid (below_then HB1.out hb4); clear hb4)
        | ((with_reducible refine (MA.out _).mono ?_); rintro e w5 ⟨rfl, hb5⟩; have HB1 := Lib.hid (below_then HB1.out hb5); clear hb5)
        | fail)
      go_ret
      exact retB rfl HB1.out
    · rw [hlo] at LO
      rw [hhe] at HE
      clear h hlo hhe
      go_enter Try.func3, Try.ntmps3
      go_wp2_with (first
        | ((with_reducible refine (awake_any _).mono ?_); rintro e w1 ⟨rfl, hb1⟩; have HX1 := Lib.hid (blk hb1 (lt_blk HX.out) HX.out); have HS1 := Lib.hid (HS.out.below hb1 (Nat.le_refl _)); have HB1 := Lib.hid (below_new hb1); clear hb1)
        | (refine load_tm (.tmp 2) w.heap.size t rfl rfl HX1.out ?_)
        | ((with_reducible refine (LO.out _).mono ?_); rintro e w2 ⟨rfl, hb2⟩; have HX1 := Lib.hid (blk hb2 (lt_blk HX1.out) HX1.out); have HS1 := Lib.hid (HS1.out.below hb2 (Nat.le_refl _)); have HB1 := Lib.hid (below_then HB1.out hb2); clear hb2)
        | ((with_reducible refine (HE.out _ HS1.out).mono ?_); rintro e w3 ⟨rfl, hb3⟩; have HX1 := Lib.hid (blk hb3 (lt_blk HX1.out) HX1.out); have HB1 := Lib.hid (below_then HB1.out hb3); clear hb3)
        | fail)
      go_ret
      exact retB rfl HB1.out
  · rw [hlo] at LO
    clear h hlo
    go_enter Try.func3, Try.ntmps3
    go_wp2_with (first
      | ((with_reducible refine (awake_any _).mono ?_); rintro e w1 ⟨rfl, hb1⟩; have HX1 := Lib.hid (blk hb1 (lt_blk HX.out) HX.out); have HS1 := Lib.hid (HS.out.below hb1 (Nat.le_refl _)); have HB1 := Lib.hid (below_new hb1); clear hb1)
      | (refine load_tm (.tmp 2) w.heap.size t rfl rfl HX1.out ?_)
      | ((with_reducible refine (LO.out _).mono ?_); rintro e w2 ⟨rfl, hb2⟩; have HX1 := Lib.hid (blk hb2 (lt_blk HX1.out) HX1.out); have HS1 := Lib.hid (HS1.out.below hb2 (Nat.le_refl _)); have HB1 := Lib.hid (below_then HB1.out hb2); clear hb2)
      | fail)
    go_ret
    exact retB rfl HB1.out

set_option maxHeartbeats 8000000 in
theorem walk_yes (w : World) (t : Tm) (l : List Ev) (v : Value) (hs : Sl w 4 v (l.map Ev.row)) (hlo : t.long = false) (hhe : heavy l 40 = false) (hli : t.cr.lives = true) :
    Calls Try.prog 3 #[.agg t.cells, v] w (RetB w true) := by
  obtain ⟨a, c, rfl⟩ : ∃ a c, v = .slice a l.length c := by simpa using hs.shape
  obtain ⟨w0, hw0⟩ : ∃ x, x = w.alloc (.cells t.cells 23) := ⟨_, rfl⟩
  have HX : Hid (w0.heap[w.heap.size]? = some (.cells t.cells 23 (0, 0))) := Lib.hid (hw0 ▸ heap_alloc_new _ _)
  have HB0 : Hid (Below w.heap.size w w0) := Lib.hid (hw0 ▸ one_below _ _)
  have HS := Lib.hid (hs.below HB0.out (Nat.le_refl _))
  have LO := Lib.hid (fun W => long_any t W)
  have HE := Lib.hid (fun (W : World) (h : Sl W 4 (.slice a l.length c) (l.map Ev.row)) => heavy_any l 40 _ W h)
  have CR := Lib.hid (fun W => credit_any t W)
  have MA := Lib.hid (fun W => refMay34_any t W hlo)
  have NW := Lib.hid (new_yes t.cr hli)
  have HLV := Lib.hid (lives_iff hli)
  have MO := Lib.hid (fun W => refMost_any t.cr W ((bnd_iff t.cr).1 HLV.out.bnd))
  have HL40 : Hid (l.length ≤ 40) := Lib.hid (by have := (heavy_no hhe).1; omega)
  have hl40 : (l.length : Int) ≤ 40 := by have := HL40.out; omega
  rw [hlo] at LO
  rw [hhe] at HE
  rw [hli] at MA
  clear hs hlo hhe hli
  go_enter Try.func3, Try.ntmps3
  go_wp2_with fail
  rw [← hw0]
  clear hw0
  go_wp2_with (first
    | ((with_reducible refine (awake_any _).mono ?_); rintro e w1 ⟨rfl, hb1⟩; have HX1 := Lib.hid (blk hb1 (lt_blk HX.out) HX.out); have HS1 := Lib.hid (HS.out.below hb1 (Nat.le_refl _)); have HB1 := Lib.hid hb1; clear hb1)
    | (refine load_tm (.tmp 2) w.heap.size t rfl rfl HX1.out ?_)
    | ((with_reducible refine (LO.out _).mono ?_); rintro e w2 ⟨rfl, hb2⟩; have HX1 := Lib.hid (blk hb2 (lt_blk HX1.out) HX1.out); have HS1 := Lib.hid (HS1.out.below hb2 (Nat.le_refl _)); have HB1 := Lib.hid (below_then HB1.out hb2); clear hb2)
    | ((with_reducible refine (HE.out _ HS1.out).mono ?_); rintro e w3 ⟨rfl, hb3⟩; have HX1 := Lib.hid (blk hb3 (lt_blk HX1.out) HX1.out); have HB1 := Lib.hid (below_then HB1.out hb3); clear hb3)
    | ((with_reducible refine (CR.out _).mono ?_); rintro e w4 ⟨rfl, hb4⟩; have HX1 := Lib.hid (blk hb4 (lt_blk HX1.out) HX1.out); have HB1 := Lib.hid (below_then HB1.out hb4); clear hb4)
    | ((with_reducible refine (MA.out _).mono ?_); rintro e w5 ⟨rfl, hb5⟩; have HX1 := Lib.hid (blk hb5 (lt_blk HX1.out) HX1.out); have HB1 := Lib.hid (below_then HB1.out hb5); clear hb5)
    | ((with_reducible refine (NW.out _).mono ?_); rintro e w6 ⟨bk, rfl, hb6, F0, hlv6, hF6⟩; have HX6 := Lib.hid (blk hb6 (lt_blk HX1.out) HX1.out); have HB6 := Lib.hid (below_then HB1.out hb6); have HLV6 := Lib.hid hlv6; have HF6 : Hid (∀ k, F0 k → w0.heap.size ≤ k) := Lib.hid (fun k hk => Nat.le_trans HB1.out.size (hF6 k hk)); clear hb6 hlv6 hF6)
    | fail)
  go_loopw [7, 8, 9, 10, 11, 12, 13] (fun i _ _ _ _ _ _ wr => ∃ (k : Nat) (F : Nat → Prop), k ≤ l.length ∧ i = .int .i64 k ∧ Lv wr 74 F bk (lifeOf t.cr (l.take k)) ∧ (∀ k, F k → w0.heap.size ≤ k) ∧ Below w0.heap.size w0 wr) (fun i _ _ _ _ _ _ _ => l.length - (intOf i).toNat)
  case atStart => exact ⟨0, F0, Nat.zero_le _, rfl, HLV6.out, HF6.out, HB6.out⟩
  case round =>
    obtain ⟨k, F, hk, rfl, hlv, hF, hbel⟩ := hrel
    have HLK := Lib.hid hlv
    have HFK := Lib.hid hF
    have HBK := Lib.hid hbel
    clear hlv hF
    by_cases hlt : k < l.length
    · obtain ⟨b, off, rfl, -, hb, hc⟩ := HS.out.at (i := k) (by simpa using hlt)
      have hr := hc k l[k].row (by simp [hlt])
      have d0 : wr.cell? ⟨b, off + k * 4, none⟩ = some (.int .i64 l[k].kind) := (hbel.cell (p := ⟨b, off + k * 4, none⟩) hb).trans (hr 0 _ rfl)
      have d1 : wr.cell? ⟨b, off + k * 4 + 1, none⟩ = some (.string l[k].party) := (hbel.cell (p := ⟨b, off + k * 4 + 1, none⟩) hb).trans (hr 1 _ rfl)
      have d2 : wr.cell? ⟨b, off + k * 4 + 2, none⟩ = some (.int .i64 l[k].day) := (hbel.cell (p := ⟨b, off + k * 4 + 2, none⟩) hb).trans (hr 2 _ rfl)
      have d3 : wr.cell? ⟨b, off + k * 4 + 3, none⟩ = some (.int .i64 l[k].amt) := (hbel.cell (p := ⟨b, off + k * 4 + 3, none⟩) hb).trans (hr 3 _ rfl)
      have HT := Lib.hid (lifeOf_take t.cr l k hlt)
      have HG : Hid ((lifeOf t.cr (l.take k)).good t.cr) := Lib.hid (lifeOf_good t.cr (l.take k))
      have hln : (lifeOf t.cr (l.take k)).evs.length ≤ 40 ∧ (lifeOf t.cr (l.take k)).paid.length ≤ 40 := by
        have h1 := lifeOf_len t.cr (l.take k)
        have h2 := HL40.out
        simp at h1
        omega
      have DO := Lib.hid (fun W F (h : Lv W 74 F bk (lifeOf t.cr (l.take k))) => doP_any bk _ F l[k] W h HG.out.s0 HG.out.s7 (by omega) (by omega))
      unfold Ev.cells at DO
      clear hr hc hbel hln
      generalize hx : l[k] = x at *
      generalize hlk : lifeOf t.cr (l.take k) = lk at *
      have HG1 : Hid ((lk.step x).2.good t.cr) := Lib.hid (step_good HG.out x)
      generalize hst : lk.step x = st at *
      obtain ⟨cd, l1⟩ := st
      clear hx hlk hst
      go_wp2_with (first
        | ((with_reducible refine (DO.out _ _ HLK.out).mono ?_); intro e w2 h2; obtain ⟨rfl, hb2, F2, hl2, hF2⟩ := after_step HBK.out HFK.out h2; have HX2 := Lib.hid (blk hb2 (lt_blk HX.out) HX.out); have HB2 := Lib.hid hb2; have HL2 := Lib.hid hl2; have HF2 := Lib.hid hF2; clear hb2 hl2 hF2 h2 d0 d1 d2 d3; obtain ⟨x0, x1, x2, x3⟩ := tm_load HX2.out; have hz : w.heap.size < w2.heap.size := lt_blk HX2.out)
        | fail)
      have HP : Hid (Sl (w2.alloc (.cells #[.string t.iss, .string t.app, .string t.ben, .string t.con] 9)) 1 (.slice (some ⟨w2.heap.size, 0, none⟩) 4 4) ([t.iss, t.app, t.ben, t.con].map stRow)) := Lib.hid (sl_strs w2 [t.iss, t.app, t.ben, t.con] 4 rfl (by simp [maxLen]))
      have HF4 : Hid (cntO l1 [t.iss, t.app, t.ben, t.con] = if l1.st = 4 ∨ l1.st = 5 then 1 else 0) := Lib.hid (four_owe HLV.out HG1.out)
      have H23 := Lib.hid (one_below w2 (.cells #[.string t.iss, .string t.app, .string t.ben, .string t.con] 9))
      have HPL : Hid ([t.iss, t.app, t.ben, t.con].length = 4) := Lib.hid rfl
      generalize hw3 : w2.alloc (.cells #[.string t.iss, .string t.app, .string t.ben, .string t.con] 9) = w3 at *
      generalize had : (some (⟨w2.heap.size, 0, none⟩ : Addr)) = ad at *
      generalize hps : [t.iss, t.app, t.ben, t.con] = ps at *
      clear hw3 had hps x0 x1 x2 x3 hz
      have HX3 := Lib.hid (blk H23.out (lt_blk HX2.out) HX2.out)
      have HL3 := Lib.hid (HL2.out.below H23.out)
      have HB3 := Lib.hid (HB2.out.trans (H23.out.mono HB2.out.size))
      go_loopw [9, 10, 11, 12] (fun n j _ _ wi => ∃ q m : Nat, q ≤ 4 ∧ j = .int .i64 q ∧ n = .int .i64 m ∧ m = cntO l1 (ps.take q) ∧ m ≤ q ∧ Below w3.heap.size w3 wi) (fun _ j _ _ _ => 4 - (intOf j).toNat)
      case atStart => exact ⟨0, 0, Nat.zero_le _, rfl, rfl, rfl, Nat.le_refl _, Below.refl _ _⟩
      case round =>
        obtain ⟨q, m, hq, rfl, rfl, hm, hmq, hbi⟩ := hrel
        have HBI := Lib.hid hbi
        by_cases hq4 : q < 4
        · have hqp : q < ps.length := by have := HPL.out; omega
          obtain ⟨b', off', rfl, -, hb', hc'⟩ := HP.out.at (i := q) (by simpa using hqp)
          have e0 : wr.cell? ⟨b', off' + q, none⟩ = some (.string ps[q]) := (hbi.cell (p := ⟨b', off' + q, none⟩) hb').trans (st_cell rfl hc' (by simp [hqp]))
          have OW := Lib.hid (fun W (h : Below w3.heap.size w3 W) => owes_lv (HL3.out.below h) ps[q])
          have HM : Hid (cntO l1 (ps.take (q + 1)) = m + if l1.owes ps[q] then 1 else 0) := Lib.hid (by
            rw [List.take_succ_eq_append_getElem hqp, cntO, List.filter_append, List.length_append, hm, cntO]
            congr 1
            simp only [List.filter_cons, List.filter_nil]
            split <;> rfl)
          have HA : Hid (l1.owes ps[q] = true → 1 ≤ l1.now.amt ∧ l1.now.amt ≤ t.cr.most) := Lib.hid (fun h => owes_amt HG1.out h)
          have HXI := Lib.hid (blk hbi (lt_blk HX3.out) HX3.out)
          clear hc' hm hbi
          generalize ps[q] = p at *
          generalize l1.now.amt = am at *
          generalize t.cr.most = mo at *
          cases ho : l1.owes p
          · rw [ho] at OW HM
            simp only [Bool.false_eq_true, if_false] at OW
            clear ho
            go_wp2_with (first
              | ((with_reducible refine (OW.out _ HBI.out).mono ?_); rintro e w4 ⟨rfl, hb4⟩; have HB4 := Lib.hid (HBI.out.trans (hb4.mono HBI.out.size)); clear hb4)
              | fail)
            go_roundw
            case rel => exact ⟨q + 1, m, by omega, by go_num, rfl, by rw [HM.out]; rfl, by omega, HB4.out⟩
            case measure => simp [intOf]; omega
          · obtain ⟨ha1, ha2⟩ := HA.out ho
            rw [ho] at OW HM
            simp only [if_true] at OW
            have t1 : decide (am < 1) = false := decide_eq_false (by omega)
            have t2 : decide (mo < am) = false := decide_eq_false (by omega)
            clear ho ha1 ha2
            go_wp2_with (first
              | ((with_reducible refine (OW.out _ HBI.out).mono ?_); rintro e w4 ⟨rfl, hb4⟩; have HB4 := Lib.hid (HBI.out.trans (hb4.mono HBI.out.size)); have HXI := Lib.hid (blk hb4 (lt_blk HXI.out) HXI.out); clear hb4)
              | (refine load_tm (.tmp 2) w.heap.size t rfl rfl HXI.out ?_)
              | ((with_reducible refine (CR.out _).mono ?_); rintro e w5 ⟨rfl, hb5⟩; have HB4 := Lib.hid (HB4.out.trans (hb5.mono HB4.out.size)); clear hb5)
              | ((with_reducible refine (MO.out _).mono ?_); rintro e w6 ⟨rfl, hb6⟩; have HB4 := Lib.hid (HB4.out.trans (hb6.mono HB4.out.size)); clear hb6)
              | fail)
            go_roundw
            case rel => exact ⟨q + 1, m + 1, by omega, by go_num, by go_num, by rw [HM.out]; rfl, by omega, HB4.out⟩
            case measure => simp [intOf]; omega
        · have HN : Hid (m = if l1.st = 4 ∨ l1.st = 5 then 1 else 0) := Lib.hid (by rw [hm, List.take_of_length_le (by have := HPL.out; omega)]; exact HF4.out)
          obtain ⟨vp, ve, hlw⟩ := HL3.out.below hbi
          have SS := Lib.hid (fun W (h : Below wr.heap.size wr W) => state_any bk l1 vp ve W (hlw.below h).box)
          have HBX := Lib.hid (HB3.out.trans (hbi.mono HB3.out.size))
          have HLX := Lib.hid (HL3.out.below hbi)
          clear hlw hm hbi
          have hq5 : q = 4 := by omega
          by_cases h4 : l1.st = 4
          · obtain rfl : m = 1 := by rw [HN.out, if_pos (.inl h4)]
            rw [h4] at SS
            clear h4 hmq hq4
            go_wp2_with (first
              | ((with_reducible refine (SS.out _ (Below.refl _ _)).mono ?_); rintro e w4 ⟨rfl, hb4⟩; have HB4 := Lib.hid hb4; clear hb4)
              | fail)
            go_roundw
            case rel => exact ⟨k + 1, F2, by omega, by go_num, by rw [HT.out]; exact HLX.out.below HB4.out, HF2.out, HBX.out.trans (HB4.out.mono HBX.out.size)⟩
            case measure => simp [intOf]; omega
          · by_cases h5 : l1.st = 5
            · obtain rfl : m = 1 := by rw [HN.out, if_pos (.inr h5)]
              rw [h5] at SS
              clear h4 h5 hmq hq4
              go_wp2_with (first
                | ((with_reducible refine (SS.out _ (Below.refl _ _)).mono ?_); rintro e w4 ⟨rfl, hb4⟩; have HB4 := Lib.hid hb4; clear hb4)
                | ((with_reducible refine (SS.out _ HB4.out).mono ?_); rintro e w4 ⟨rfl, hb4⟩; have HB4 := Lib.hid (below_then HB4.out hb4); clear hb4)
                | fail)
              go_roundw
              case rel => exact ⟨k + 1, F2, by omega, by go_num, by rw [HT.out]; exact HLX.out.below HB4.out, HF2.out, HBX.out.trans (HB4.out.mono HBX.out.size)⟩
              case measure => simp [intOf]; omega
            · obtain rfl : m = 0 := by rw [HN.out, if_neg (by omega)]
              have s4 : (l1.st == 4) = false := by simp [h4]
              have s5 : (l1.st == 5) = false := by simp [h5]
              clear h4 h5 hmq hq4
              generalize l1.st = sv at *
              go_wp2_with (first
                | ((with_reducible refine (SS.out _ (Below.refl _ _)).mono ?_); rintro e w4 ⟨rfl, hb4⟩; have HB4 := Lib.hid hb4; clear hb4)
                | ((with_reducible refine (SS.out _ HB4.out).mono ?_); rintro e w4 ⟨rfl, hb4⟩; have HB4 := Lib.hid (below_then HB4.out hb4); clear hb4)
                | fail)
              go_roundw
              case rel => exact ⟨k + 1, F2, by omega, by go_num, by rw [HT.out]; exact HLX.out.below HB4.out, HF2.out, HBX.out.trans (HB4.out.mono HBX.out.size)⟩
              case measure => simp [intOf]; omega
    · go_wp2_with fail
      go_ret
      exact retB rfl (HB0.out.trans (hbel.mono HB0.out.size))
theorem walk (w : World) (t : Tm) (_ht : t.fit) (l : List Ev) (v : Value) (hs : Sl w 4 v (l.map Ev.row)) (_hf : ∀ e ∈ l, e.fit) : Calls Try.prog 3 #[.agg t.cells, v] w (RetB w true) := by
  cases hlo : t.long <;> cases hhe : heavy l 40 <;> cases hli : t.cr.lives
  case false.false.true => exact walk_yes w t l v hs hlo hhe hli
  all_goals exact walk_no w t l v hs (by simp [hlo, hhe, hli])

theorem lifted (os : Os) (started : os.Started) (H : Type) (enc : TypeId × Value → H) :
    ReturnsInHanded {} Try.checked os 3 .any (Rows.undertakeOwesSpec.pre6 enc Try.prog Try.f3 Rows.undertakeOwesRow.domain false) (Rows.undertakeOwesSpec.post enc Try.prog Try.f3 false true false false) := by
  refine law_lifted os started (by kernel_rfl) Try.func3
    (ChangeSpec.witness6 (enc := enc) (C := Try.checked) false ⟨#[], #[.agg #[.string ⟨#[]⟩, .string ⟨#[]⟩, .string ⟨#[]⟩, .string ⟨#[]⟩, .int .i64 0, .int .i64 0, .int .i64 0, .int .i64 0, .bool false], .slice none 0 0], []⟩ 8 (by kernel_rfl) (by kernel_rfl) (by kernel_rfl) (by kernel_rfl))
    (by kernel_rfl) rfl rfl ?_ ?_
  · intro vs ds W p hA
    rw [Try.params3] at hA
    obtain ⟨v0, vs0, d0, ds0, p0, q0, rfl, rfl, rfl, h0, r0⟩ := trodAll_cons hA
    obtain ⟨v1, vs1, d1, ds1, p1, q1, rfl, rfl, rfl, h1, r1⟩ := trodAll_cons r0
    obtain ⟨rfl, rfl, rfl⟩ := trodAll_nil r1
    rfl
  · intro W base args ds p hval hA
    rw [Try.params3] at hA hval
    obtain ⟨v0, vs0, d0, ds0, p0, q0, hargs, rfl, rfl, h0, r0⟩ := trodAll_cons hA
    obtain ⟨v1, vs1, d1, ds1, p1, q1, rfl, rfl, rfl, h1, r1⟩ := trodAll_cons r0
    obtain ⟨rfl, rfl, rfl⟩ := trodAll_nil r1
    obtain rfl : args = #[v0, v1] := by cases args; simp_all
    obtain ⟨t0, rfl, w0⟩ := open_terms (hval 0 23 v0 rfl rfl) h0
    obtain ⟨l1, hs1, hf1⟩ := open_evs (hval 1 24 v1 rfl rfl) h1
    exact walk W t0 w0 l1 v1 hs1 hf1

theorem over : Rows.undertakeOwesRow.holds Try.pinned (OpenSpec.ofChange Rows.undertakeOwesSpec) :=
  OpenClaim.holds_of_wide 3 Try.f3 rfl rfl rfl rfl rfl rfl rfl ⟨rfl, rfl, rfl, rfl, rfl⟩ rfl rfl rfl rfl rfl (by kernel_rfl) Try.func3 (by kernel_rfl)
    (of_decide_eq_true (by kernel_rfl)) (by unfold Func.isWrapper; rw [if_neg (by decide +kernel)]; exact ⟨rfl, rfl⟩)
    (fun os started H enc _ => lifted os started H enc)

/-- The statement. -/
theorem proved : Rows.UndertakeOwesSaid := over
#print axioms proved
end Go.Proofs.Ytjabjfkfoenmlaa.undertakeOwes
