/- The statement UndertakeNexts: of any life just those kinds that Next tells can happen, by one of the four at most; of one that is expired none; no condition. -/
import Derived.Test.YtjabjfkfoenmlaaNx34
namespace Go.Proofs.Ytjabjfkfoenmlaa.undertakeNexts
open Go.ChangeShapes Go.WideShapes Go.ChangeAt Go.RowKit Go Sc
set_option maxRecDepth 100000

set_option maxHeartbeats 4000000 in
theorem walk_no (w : World) (t : Tm) (l : List Ev) (v : Value) (kd am dy : Int) (hs : Sl w 4 v (l.map Ev.row)) (h : (t.long || (heavy l 24 || !t.cr.lives)) = true) :
    Calls Try.prog 7 #[.agg t.cells, v, .int .i64 kd, .int .i64 am, .int .i64 dy] w (RetB w true) := by
  have HX : Hid ((w.alloc (.cells t.cells 23)).heap[w.heap.size]? = some (.cells t.cells 23 (0, 0))) := Lib.hid (heap_alloc_new _ _)
  have HS := Lib.hid (hs.below (one_below w (.cells t.cells 23)) (Nat.le_refl _))
  have LO := Lib.hid (fun W => long_any t W)
  have HE := Lib.hid (fun (W : World) (h : Sl W 4 v (l.map Ev.row)) => heavy_any l 24 v W h)
  have CR := Lib.hid (fun W => credit_any t W)
  clear hs
  cases hlo : t.long
  · cases hhe : heavy l 24
    · have hli : t.cr.lives = false := by simpa [hlo, hhe] using h
      have MA := Lib.hid (fun W => refMay34_any t W hlo)
      rw [hlo] at LO
      rw [hhe] at HE
      rw [hli] at MA
      clear h hlo hhe hli
      go_enter Try.func7, Try.ntmps7
      go_wp2_with (first
        | ((with_reducible refine (awake_any _).mono ?_); rintro e w1 ⟨rfl, hb1⟩; have HX1 := Lib.hid (blk hb1 (lt_blk HX.out) HX.out); have HS1 := Lib.hid (HS.out.below hb1 (Nat.le_refl _)); have HB1 := Lib.hid (below_new hb1); clear hb1)
        | (refine load_tm (.tmp 5) w.heap.size t rfl rfl HX1.out ?_)
        | ((with_reducible refine (LO.out _).mono ?_); rintro e w2 ⟨rfl, hb2⟩; have HX1 := Lib.hid (blk hb2 (lt_blk HX1.out) HX1.out); have HS1 := Lib.hid (HS1.out.below hb2 (Nat.le_refl _)); have HB1 := Lib.hid (below_then HB1.out hb2); clear hb2)
        | ((with_reducible refine (HE.out _ HS1.out).mono ?_); rintro e w3 ⟨rfl, hb3⟩; have HX1 := Lib.hid (blk hb3 (lt_blk HX1.out) HX1.out); have HB1 := Lib.hid (below_then HB1.out hb3); clear hb3)
        | ((with_reducible refine (CR.out _).mono ?_); rintro e w4 ⟨rfl, hb4⟩; have HB1 := Lib.hid (below_then HB1.out hb4); clear hb4)
        | ((with_reducible refine (MA.out _).mono ?_); rintro e w5 ⟨rfl, hb5⟩; have HB1 := Lib.hid (below_then HB1.out hb5); clear hb5)
        | fail)
      go_ret
      exact retB rfl HB1.out
    · rw [hlo] at LO
      rw [hhe] at HE
      clear h hlo hhe
      go_enter Try.func7, Try.ntmps7
      go_wp2_with (first
        | ((with_reducible refine (awake_any _).mono ?_); rintro e w1 ⟨rfl, hb1⟩; have HX1 := Lib.hid (blk hb1 (lt_blk HX.out) HX.out); have HS1 := Lib.hid (HS.out.below hb1 (Nat.le_refl _)); have HB1 := Lib.hid (below_new hb1); clear hb1)
        | (refine load_tm (.tmp 5) w.heap.size t rfl rfl HX1.out ?_)
        | ((with_reducible refine (LO.out _).mono ?_); rintro e w2 ⟨rfl, hb2⟩; have HX1 := Lib.hid (blk hb2 (lt_blk HX1.out) HX1.out); have HS1 := Lib.hid (HS1.out.below hb2 (Nat.le_refl _)); have HB1 := Lib.hid (below_then HB1.out hb2); clear hb2)
        | ((with_reducible refine (HE.out _ HS1.out).mono ?_); rintro e w3 ⟨rfl, hb3⟩; have HX1 := Lib.hid (blk hb3 (lt_blk HX1.out) HX1.out); have HB1 := Lib.hid (below_then HB1.out hb3); clear hb3)
        | fail)
      go_ret
      exact retB rfl HB1.out
  · rw [hlo] at LO
    clear h hlo
    go_enter Try.func7, Try.ntmps7
    go_wp2_with (first
      | ((with_reducible refine (awake_any _).mono ?_); rintro e w1 ⟨rfl, hb1⟩; have HX1 := Lib.hid (blk hb1 (lt_blk HX.out) HX.out); have HS1 := Lib.hid (HS.out.below hb1 (Nat.le_refl _)); have HB1 := Lib.hid (below_new hb1); clear hb1)
      | (refine load_tm (.tmp 5) w.heap.size t rfl rfl HX1.out ?_)
      | ((with_reducible refine (LO.out _).mono ?_); rintro e w2 ⟨rfl, hb2⟩; have HX1 := Lib.hid (blk hb2 (lt_blk HX1.out) HX1.out); have HS1 := Lib.hid (HS1.out.below hb2 (Nat.le_refl _)); have HB1 := Lib.hid (below_then HB1.out hb2); clear hb2)
      | fail)
    go_ret
    exact retB rfl HB1.out

set_option maxHeartbeats 8000000 in
theorem walk_yes (w : World) (t : Tm) (l : List Ev) (v : Value) (kd am dy : Int) (hs : Sl w 4 v (l.map Ev.row)) (hft : ∀ e ∈ l, e.fit) (hlo : t.long = false) (hhe : heavy l 24 = false) (hli : t.cr.lives = true) :
    Calls Try.prog 7 #[.agg t.cells, v, .int .i64 kd, .int .i64 am, .int .i64 dy] w (RetB w true) := by
  obtain ⟨a, c, rfl⟩ : ∃ a c, v = .slice a l.length c := by simpa using hs.shape
  obtain ⟨w0, hw0⟩ : ∃ x, x = w.alloc (.cells t.cells 23) := ⟨_, rfl⟩
  have HX : Hid (w0.heap[w.heap.size]? = some (.cells t.cells 23 (0, 0))) := Lib.hid (hw0 ▸ heap_alloc_new _ _)
  have HB0 : Hid (Below w.heap.size w w0) := Lib.hid (hw0 ▸ one_below _ _)
  have HS := Lib.hid (hs.below HB0.out (Nat.le_refl _))
  have LO := Lib.hid (fun W => long_any t W)
  have HE := Lib.hid (fun (W : World) (h : Sl W 4 (.slice a l.length c) (l.map Ev.row)) => heavy_any l 24 _ W h)
  have CR := Lib.hid (fun W => credit_any t W)
  have MA := Lib.hid (fun W => refMay34_any t W hlo)
  have HLV := Lib.hid (lives_iff hli)
  have HL40 : Hid (l.length ≤ 24) := Lib.hid (by have := (heavy_no hhe).1; omega)
  have hl40 : (l.length : Int) ≤ 24 := by have := HL40.out; omega
  have GR := Lib.hid (fun (W : World) (h : Sl W 4 (.slice a l.length c) (l.map Ev.row)) => grown_any t l _ W h (by have := HL40.out; omega) hft hli)
  rw [hlo] at LO
  rw [hhe] at HE
  rw [hli] at MA
  clear hs hlo hhe hli
  go_enter Try.func7, Try.ntmps7
  go_wp2_with fail
  rw [← hw0]
  clear hw0
  go_wp2_with (first
    | ((with_reducible refine (awake_any _).mono ?_); rintro e w1 ⟨rfl, hb1⟩; have HX1 := Lib.hid (blk hb1 (lt_blk HX.out) HX.out); have HS1 := Lib.hid (HS.out.below hb1 (Nat.le_refl _)); have HB1 := Lib.hid hb1; clear hb1)
    | (refine load_tm (.tmp 5) w.heap.size t rfl rfl HX1.out ?_)
    | ((with_reducible refine (LO.out _).mono ?_); rintro e w2 ⟨rfl, hb2⟩; have HX1 := Lib.hid (blk hb2 (lt_blk HX1.out) HX1.out); have HS1 := Lib.hid (HS1.out.below hb2 (Nat.le_refl _)); have HB1 := Lib.hid (below_then HB1.out hb2); clear hb2)
    | ((with_reducible refine (HE.out _ HS1.out).mono ?_); rintro e w3 ⟨rfl, hb3⟩; have HX1 := Lib.hid (blk hb3 (lt_blk HX1.out) HX1.out); have HS1 := Lib.hid (HS1.out.below hb3 (Nat.le_refl _)); have HB1 := Lib.hid (below_then HB1.out hb3); clear hb3)
    | ((with_reducible refine (CR.out _).mono ?_); rintro e w4 ⟨rfl, hb4⟩; have HX1 := Lib.hid (blk hb4 (lt_blk HX1.out) HX1.out); have HS1 := Lib.hid (HS1.out.below hb4 (Nat.le_refl _)); have HB1 := Lib.hid (below_then HB1.out hb4); clear hb4)
    | ((with_reducible refine (MA.out _).mono ?_); rintro e w5 ⟨rfl, hb5⟩; have HX1 := Lib.hid (blk hb5 (lt_blk HX1.out) HX1.out); have HS1 := Lib.hid (HS1.out.below hb5 (Nat.le_refl _)); have HB1 := Lib.hid (below_then HB1.out hb5); clear hb5)
    | ((with_reducible refine (GR.out _ HS1.out).mono ?_); rintro e w6 ⟨bk, bx, rfl, F, G, hl6, -, hF6, -, -, hb6⟩; have HX6 := Lib.hid (blk hb6 (lt_blk HX1.out) HX1.out); have HL6 := Lib.hid hl6; have HB6 := Lib.hid (below_then HB1.out hb6); have HG6 : Hid ((lifeOf t.cr l).good t.cr) := Lib.hid (lifeOf_good t.cr l); clear hl6 hF6 hb6)
    | ((with_reducible refine (next_any bk _ F _ HL6.out HG6.out.s0 HG6.out.s7).mono ?_); rintro e w7 ⟨vn, rfl, hown7, hb7⟩; have HSN := Lib.hid (own_ints hown7 rfl); have HX7 := Lib.hid (blk hb7 (lt_blk HX6.out) HX6.out); have HL7 := Lib.hid (HL6.out.below hb7); have HB7 := Lib.hid (below_then HB6.out hb7); clear hown7 hb7)
    | fail)
  have hln := lifeOf_len t.cr l
  generalize lifeOf t.cr l = lk at *
  obtain ⟨L, hL⟩ : ∃ L, L = lk.nexts := ⟨_, rfl⟩
  have HNX : Hid (lk.nx kd = decide (kd ∈ L)) := Lib.hid (by rw [hL]; rfl)
  have HEX : Hid (lk.st = 7 → L = []) := Lib.hid (fun h => by rw [hL]; exact nexts_expired lk h)
  have hL8 : L.length ≤ 8 := by rw [hL]; exact nextsTo_len lk 8
  rw [← hL] at HSN
  have HLN : Hid (lk.evs.length ≤ 24 ∧ lk.paid.length ≤ 24) := Lib.hid (by have := HL40.out; omega)
  clear hL hln
  obtain ⟨an, cn, rfl⟩ : ∃ a c, vn = .slice a L.length c := by simpa using HSN.out.shape
  go_loopw [14, 16] (fun nx i wi => ∃ q : Nat, q ≤ L.length ∧ i = .int .i64 q ∧ nx = .bool (decide (kd ∈ L.take q)) ∧ Below w7.heap.size w7 wi) (fun _ i _ => L.length - (intOf i).toNat)
  case atStart => exact ⟨0, Nat.zero_le _, rfl, rfl, Below.refl _ _⟩
  case round =>
    obtain ⟨q, hq, rfl, rfl, hbi⟩ := hrel
    have HBI := Lib.hid hbi
    by_cases hqN : q < L.length
    · obtain ⟨b', off', rfl, -, hb', hc'⟩ := HSN.out.at (i := q) (by simpa using hqN)
      have e0 : wr.cell? ⟨b', off' + q, none⟩ = some (.int .i64 L[q]) := (hbi.cell (p := ⟨b', off' + q, none⟩) hb').trans (by have := hc' q (inRow L[q]) (by simp [hqN]) 0 _ rfl; simpa using this)
      have HQ : Hid (decide (kd ∈ L.take (q + 1)) = (decide (kd ∈ L.take q) || (L[q] == kd))) := Lib.hid (dec_take L q hqN kd)
      clear hbi hc'
      have hl8 : (L.length : Int) ≤ 8 := by omega
      generalize L[q] = x at *
      cases hd : decide (kd ∈ L.take q)
      · cases hx : (x == kd)
        · rw [hd, hx] at HQ
          clear hd
          go_wp2_with fail
          go_roundw
          case rel => exact ⟨q + 1, by omega, by go_num, by rw [HQ.out]; rfl, HBI.out⟩
          case measure => (simp [intOf]) <;> omega
        · rw [hd, hx] at HQ
          clear hd
          go_wp2_with fail
          go_roundw
          case rel => exact ⟨q + 1, by omega, by go_num, by rw [HQ.out]; rfl, HBI.out⟩
          case measure => (simp [intOf]) <;> omega
      · rw [hd] at HQ
        clear hd
        go_wp2_with fail
        go_roundw
        case rel => exact ⟨q + 1, by omega, by go_num, by rw [HQ.out]; rfl, HBI.out⟩
        case measure => (simp [intOf]) <;> omega
    · have HNQ : Hid (decide (kd ∈ L.take q) = lk.nx kd) := Lib.hid (by rw [HNX.out, List.take_of_length_le (by omega)])
      have HXI := Lib.hid (blk hbi (lt_blk HX7.out) HX7.out)
      have HLI := Lib.hid (HL7.out.below hbi)
      have HBB := Lib.hid (HB7.out.trans (hbi.mono HB7.out.size))
      obtain ⟨x0, x1, x2, x3⟩ := tm_load HXI.out
      have hz : w.heap.size < wr.heap.size := lt_blk HXI.out
      have hq' : ¬ (q : Int) < L.length := by omega
      rw [HNQ.out]
      obtain ⟨wo, hwo⟩ : ∃ x, x = wr := ⟨_, rfl⟩
      rw [← hwo] at HXI HLI HBB x0 x1 x2 x3 hz
      rw [← hwo]
      clear hbi hwo
      generalize hnx : lk.nx kd = nx at *
      have HNN := Lib.hid hnx
      clear hnx
      go_wp2_with fail
      have HP : Hid (Sl (wo.alloc (.cells #[.string t.iss, .string t.app, .string t.ben, .string t.con] 9)) 1 (.slice (some ⟨wo.heap.size, 0, none⟩) 4 4) ([t.iss, t.app, t.ben, t.con].map stRow)) := Lib.hid (sl_strs wo [t.iss, t.app, t.ben, t.con] 4 rfl (by simp [maxLen]))
      have HDN : Hid (cntA lk (fun p => ⟨kd, p, dy, am⟩) 0 [t.iss, t.app, t.ben, t.con] ≤ 1) := Lib.hid (cntA_done HLV.out lk kd dy am)
      have H23 := Lib.hid (one_below wo (.cells #[.string t.iss, .string t.app, .string t.ben, .string t.con] 9))
      have HPL : Hid ([t.iss, t.app, t.ben, t.con].length = 4) := Lib.hid rfl
      generalize hw3 : wo.alloc (.cells #[.string t.iss, .string t.app, .string t.ben, .string t.con] 9) = w3 at *
      generalize had : (some (⟨wo.heap.size, 0, none⟩ : Addr)) = ad at *
      generalize hps : [t.iss, t.app, t.ben, t.con] = ps at *
      clear hw3 had hps x0 x1 x2 x3 hz
      have HL3 := Lib.hid (HLI.out.below H23.out)
      have HB3 := Lib.hid (HBB.out.trans (H23.out.mono HBB.out.size))
      go_loopw [18, 19, 20, 21, 22] (fun dn ho j _ _ wi => ∃ r m h : Nat, r ≤ 4 ∧ j = .int .i64 r ∧ dn = .int .i64 m ∧ ho = .int .i64 h ∧ m = cntA lk (fun p => ⟨kd, p, dy, am⟩) 0 (ps.take r) ∧ h = cntA lk (fun p => ⟨kd, p, dy, am⟩) 8 (ps.take r) ∧ m ≤ r ∧ h ≤ r ∧ Below w3.heap.size w3 wi) (fun _ _ j _ _ _ => 4 - (intOf j).toNat)
      case atStart => exact ⟨0, 0, 0, Nat.zero_le _, rfl, rfl, rfl, rfl, rfl, Nat.le_refl _, Nat.le_refl _, Below.refl _ _⟩
      case round =>
        obtain ⟨r, m, h, hr, rfl, rfl, rfl, hm, hh, hmr, hhr, hbi⟩ := hrel
        have HBI := Lib.hid hbi
        by_cases hr4 : r < 4
        · have hrp : r < ps.length := by have := HPL.out; omega
          obtain ⟨b', off', rfl, -, hb', hc'⟩ := HP.out.at (i := r) (by simpa using hrp)
          have s0 : ∀ W, Below w3.heap.size w3 W → W.cell? ⟨b', off' + r, none⟩ = some (.string ps[r]) := fun W hW => (hW.cell (p := ⟨b', off' + r, none⟩) hb').trans (st_cell rfl hc' (by simp [hrp]))
          have HS0 := Lib.hid s0
          have M0 := cntA_take lk (fun p => ⟨kd, p, dy, am⟩) 0 ps r hrp
          have M8 := cntA_take lk (fun p => ⟨kd, p, dy, am⟩) 8 ps r hrp
          rw [← hm] at M0
          rw [← hh] at M8
          have HCP := Lib.hid (copy_any bk lk F wr (HL3.out.below hbi) (by have := HLN.out; omega) (by have := HLN.out; omega))
          have DO := Lib.hid (fun W b F (h : Lv W 74 F b lk) => doP_any b lk F ⟨kd, ps[r], dy, am⟩ W h HG6.out.s0 HG6.out.s7 (by have := HLN.out; omega) (by have := HLN.out; omega))
          have SC := step_codes lk ⟨kd, ps[r], dy, am⟩
          unfold Ev.cells at DO
          simp only at SC DO M0 M8
          rw [HNN.out] at SC
          clear hm hh s0 hc' hbi
          generalize ps[r] = p at *
          generalize lk.step ⟨kd, p, dy, am⟩ = st at *
          obtain ⟨cd, l1⟩ := st
          obtain ⟨sc1, sc2, sc3⟩ := SC
          simp only at sc1 sc2 sc3 M0 M8 DO
          by_cases c0 : cd = 0
          · subst c0
            obtain ⟨rfl, -, -⟩ := sc1 rfl
            have HM0 := Lib.hid M0
            have HM8 := Lib.hid M8
            clear sc1 sc2 sc3 M0 M8
            go_wp2_with (first
              | ((with_reducible refine HCP.out.mono ?_); rintro e w4 ⟨bn, rfl, hb4, F4, hl4, hF4⟩; have HBB4 := Lib.hid (HBI.out.trans (hb4.mono HBI.out.size)); have HL4 := Lib.hid hl4; have HF4 : Hid (∀ k, F4 k → w3.heap.size ≤ k) := Lib.hid (fun k hk => Nat.le_trans HBI.out.size (hF4 k hk)); have e0 := HS0.out _ HBB4.out; clear hb4 hl4 hF4)
              | ((with_reducible refine (DO.out _ _ _ HL4.out).mono ?_); intro e w5 h5; obtain ⟨rfl, hb5, -⟩ := after_step HBB4.out HF4.out h5; have HB5 := Lib.hid hb5; clear hb5 h5 e0)
              | fail)
            go_roundw
            case rel => exact ⟨r + 1, m + 1, h, by omega, by go_num, by go_num, by go_num, by rw [HM0.out, if_pos trivial], by rw [HM8.out, if_neg (by decide)]; rfl, by omega, by omega, HB5.out⟩
            case measure => (simp [intOf]) <;> omega
          by_cases c8 : cd = 8
          · subst c8
            obtain rfl := sc2 rfl
            clear c0
            have HM0 := Lib.hid M0
            have HM8 := Lib.hid M8
            clear sc1 sc2 sc3 M0 M8
            go_wp2_with (first
              | ((with_reducible refine HCP.out.mono ?_); rintro e w4 ⟨bn, rfl, hb4, F4, hl4, hF4⟩; have HBB4 := Lib.hid (HBI.out.trans (hb4.mono HBI.out.size)); have HL4 := Lib.hid hl4; have HF4 : Hid (∀ k, F4 k → w3.heap.size ≤ k) := Lib.hid (fun k hk => Nat.le_trans HBI.out.size (hF4 k hk)); have e0 := HS0.out _ HBB4.out; clear hb4 hl4 hF4)
              | ((with_reducible refine (DO.out _ _ _ HL4.out).mono ?_); intro e w5 h5; obtain ⟨rfl, hb5, -⟩ := after_step HBB4.out HF4.out h5; have HB5 := Lib.hid hb5; clear hb5 h5 e0)
              | fail)
            go_roundw
            case rel => exact ⟨r + 1, m, h + 1, by omega, by go_num, by go_num, by go_num, by rw [HM0.out, if_neg (by decide)]; rfl, by rw [HM8.out, if_pos trivial], by omega, by omega, HB5.out⟩
            case measure => (simp [intOf]) <;> omega
          have M0' : Hid (cntA lk (fun p => ⟨kd, p, dy, am⟩) 0 (ps.take (r + 1)) = m) := Lib.hid (by rw [M0, if_neg c0]; rfl)
          have M8' : Hid (cntA lk (fun p => ⟨kd, p, dy, am⟩) 8 (ps.take (r + 1)) = h) := Lib.hid (by rw [M8, if_neg c8]; rfl)
          clear M0 M8
          cases nx
          · have sc := sc3 rfl
            clear sc1 sc2 sc3 c0 c8
            obtain rfl | rfl | rfl := sc
            · go_wp2_with (first
                | ((with_reducible refine HCP.out.mono ?_); rintro e w4 ⟨bn, rfl, hb4, F4, hl4, hF4⟩; have HBB4 := Lib.hid (HBI.out.trans (hb4.mono HBI.out.size)); have HL4 := Lib.hid hl4; have HF4 : Hid (∀ k, F4 k → w3.heap.size ≤ k) := Lib.hid (fun k hk => Nat.le_trans HBI.out.size (hF4 k hk)); have e0 := HS0.out _ HBB4.out; clear hb4 hl4 hF4)
                | ((with_reducible refine (DO.out _ _ _ HL4.out).mono ?_); intro e w5 h5; obtain ⟨rfl, hb5, -⟩ := after_step HBB4.out HF4.out h5; have HB5 := Lib.hid hb5; clear hb5 h5 e0)
                | fail)
              go_roundw
              case rel => exact ⟨r + 1, m, h, by omega, by go_num, by go_num, by go_num, M0'.out.symm, M8'.out.symm, by omega, by omega, HB5.out⟩
              case measure => (simp [intOf]) <;> omega
            · go_wp2_with (first
                | ((with_reducible refine HCP.out.mono ?_); rintro e w4 ⟨bn, rfl, hb4, F4, hl4, hF4⟩; have HBB4 := Lib.hid (HBI.out.trans (hb4.mono HBI.out.size)); have HL4 := Lib.hid hl4; have HF4 : Hid (∀ k, F4 k → w3.heap.size ≤ k) := Lib.hid (fun k hk => Nat.le_trans HBI.out.size (hF4 k hk)); have e0 := HS0.out _ HBB4.out; clear hb4 hl4 hF4)
                | ((with_reducible refine (DO.out _ _ _ HL4.out).mono ?_); intro e w5 h5; obtain ⟨rfl, hb5, -⟩ := after_step HBB4.out HF4.out h5; have HB5 := Lib.hid hb5; clear hb5 h5 e0)
                | fail)
              go_roundw
              case rel => exact ⟨r + 1, m, h, by omega, by go_num, by go_num, by go_num, M0'.out.symm, M8'.out.symm, by omega, by omega, HB5.out⟩
              case measure => (simp [intOf]) <;> omega
            · go_wp2_with (first
                | ((with_reducible refine HCP.out.mono ?_); rintro e w4 ⟨bn, rfl, hb4, F4, hl4, hF4⟩; have HBB4 := Lib.hid (HBI.out.trans (hb4.mono HBI.out.size)); have HL4 := Lib.hid hl4; have HF4 : Hid (∀ k, F4 k → w3.heap.size ≤ k) := Lib.hid (fun k hk => Nat.le_trans HBI.out.size (hF4 k hk)); have e0 := HS0.out _ HBB4.out; clear hb4 hl4 hF4)
                | ((with_reducible refine (DO.out _ _ _ HL4.out).mono ?_); intro e w5 h5; obtain ⟨rfl, hb5, -⟩ := after_step HBB4.out HF4.out h5; have HB5 := Lib.hid hb5; clear hb5 h5 e0)
                | fail)
              go_roundw
              case rel => exact ⟨r + 1, m, h, by omega, by go_num, by go_num, by go_num, M0'.out.symm, M8'.out.symm, by omega, by omega, HB5.out⟩
              case measure => (simp [intOf]) <;> omega
          · have t0 : (cd == 0) = false := by simp [c0]
            have t8 : (cd == 8) = false := by simp [c8]
            clear sc1 sc2 sc3 c0 c8
            go_wp2_with (first
              | ((with_reducible refine HCP.out.mono ?_); rintro e w4 ⟨bn, rfl, hb4, F4, hl4, hF4⟩; have HBB4 := Lib.hid (HBI.out.trans (hb4.mono HBI.out.size)); have HL4 := Lib.hid hl4; have HF4 : Hid (∀ k, F4 k → w3.heap.size ≤ k) := Lib.hid (fun k hk => Nat.le_trans HBI.out.size (hF4 k hk)); have e0 := HS0.out _ HBB4.out; clear hb4 hl4 hF4)
              | ((with_reducible refine (DO.out _ _ _ HL4.out).mono ?_); intro e w5 h5; obtain ⟨rfl, hb5, -⟩ := after_step HBB4.out HF4.out h5; have HB5 := Lib.hid hb5; clear hb5 h5 e0)
              | fail)
            go_roundw
            case rel => exact ⟨r + 1, m, h, by omega, by go_num, by go_num, by go_num, M0'.out.symm, M8'.out.symm, by omega, by omega, HB5.out⟩
            case measure => (simp [intOf]) <;> omega
        · have hm1 : m ≤ 1 := by rw [hm, List.take_of_length_le (by have := HPL.out; omega)]; exact HDN.out
          have hh0 : nx = false → h = 0 := fun e => by rw [hh]; exact cntA_holder lk kd dy am _ (HNN.out.trans e)
          obtain ⟨vp, ve, hlw⟩ := HL3.out.below hbi
          have SS := Lib.hid (fun W (h : Below wr.heap.size wr W) => state_any bk lk vp ve W (hlw.below h).box)
          have HBX := Lib.hid (HB3.out.trans (hbi.mono HB3.out.size))
          have tm : decide ((m : Int) ≤ 1) = true := decide_eq_true (by omega)
          have hex := HEX.out
          have HHR : Hid (r = 4 ∧ h ≤ 4 ∧ m ≤ 4) := Lib.hid (by omega)
          clear hlw hm hh hbi
          generalize lk.st = sv at *
          by_cases h7 : sv = 7
          · subst h7
            have tl : ((L.length : Int) == 0) = true := by rw [hex rfl]; rfl
            cases nx
            · obtain rfl := hh0 rfl
              clear hex hh0
              go_wp2_with (first
              | ((with_reducible refine (SS.out _ (Below.refl _ _)).mono ?_); rintro e w8 ⟨rfl, hb8⟩; have HB8 := Lib.hid hb8; clear hb8)
              | fail)
              go_ret
              exact retB rfl (HB0.out.trans ((HBX.out.trans (HB8.out.mono HBX.out.size)).mono HB0.out.size))
            · clear hex hh0
              by_cases h0 : h = 0
              · subst h0
                go_wp2_with (first
                | ((with_reducible refine (SS.out _ (Below.refl _ _)).mono ?_); rintro e w8 ⟨rfl, hb8⟩; have HB8 := Lib.hid hb8; clear hb8)
                | fail)
                go_ret
                exact retB rfl (HB0.out.trans ((HBX.out.trans (HB8.out.mono HBX.out.size)).mono HB0.out.size))
              · have t0 : ((h : Int) == 0) = false := by simp [h0]
                clear h0
                go_wp2_with (first
                | ((with_reducible refine (SS.out _ (Below.refl _ _)).mono ?_); rintro e w8 ⟨rfl, hb8⟩; have HB8 := Lib.hid hb8; clear hb8)
                | fail)
                go_ret
                exact retB rfl (HB0.out.trans ((HBX.out.trans (HB8.out.mono HBX.out.size)).mono HB0.out.size))
          · have t7 : (sv != 7) = true := by simp [h7]
            have t77 : (sv == 7) = false := by simp [h7]
            cases nx
            · obtain rfl := hh0 rfl
              clear hex hh0 h7
              go_wp2_with (first
              | ((with_reducible refine (SS.out _ (Below.refl _ _)).mono ?_); rintro e w8 ⟨rfl, hb8⟩; have HB8 := Lib.hid hb8; clear hb8)
              | fail)
              go_ret
              exact retB rfl (HB0.out.trans ((HBX.out.trans (HB8.out.mono HBX.out.size)).mono HB0.out.size))
            · clear hex hh0 h7
              by_cases h0 : h = 0
              · subst h0
                go_wp2_with (first
                | ((with_reducible refine (SS.out _ (Below.refl _ _)).mono ?_); rintro e w8 ⟨rfl, hb8⟩; have HB8 := Lib.hid hb8; clear hb8)
                | fail)
                go_ret
                exact retB rfl (HB0.out.trans ((HBX.out.trans (HB8.out.mono HBX.out.size)).mono HB0.out.size))
              · have t0 : ((h : Int) == 0) = false := by simp [h0]
                clear h0
                go_wp2_with (first
                | ((with_reducible refine (SS.out _ (Below.refl _ _)).mono ?_); rintro e w8 ⟨rfl, hb8⟩; have HB8 := Lib.hid hb8; clear hb8)
                | fail)
                go_ret
                exact retB rfl (HB0.out.trans ((HBX.out.trans (HB8.out.mono HBX.out.size)).mono HB0.out.size))
theorem walk (w : World) (t : Tm) (_ht : t.fit) (l : List Ev) (v : Value) (hs : Sl w 4 v (l.map Ev.row)) (hf : ∀ e ∈ l, e.fit) (kd : Int) (_ : (Lit.int .i64 kd).wf = true) (am : Int) (_ : (Lit.int .i64 am).wf = true) (dy : Int) (_ : (Lit.int .i64 dy).wf = true) : Calls Try.prog 7 #[.agg t.cells, v, .int .i64 kd, .int .i64 am, .int .i64 dy] w (RetB w true) := by
  cases hlo : t.long <;> cases hhe : heavy l 24 <;> cases hli : t.cr.lives
  case false.false.true => exact walk_yes w t l v kd am dy hs hf hlo hhe hli
  all_goals exact walk_no w t l v kd am dy hs (by simp [hlo, hhe, hli])

theorem lifted (os : Os) (started : os.Started) (H : Type) (enc : TypeId × Value → H) :
    ReturnsInHanded {} Try.checked os 7 .any (Rows.undertakeNextsSpec.pre6 enc Try.prog Try.f7 Rows.undertakeNextsRow.domain false) (Rows.undertakeNextsSpec.post enc Try.prog Try.f7 false true false false) := by
  refine law_lifted os started (by kernel_rfl) Try.func7
    (ChangeSpec.witness6 (enc := enc) (C := Try.checked) false ⟨#[], #[.agg #[.string ⟨#[]⟩, .string ⟨#[]⟩, .string ⟨#[]⟩, .string ⟨#[]⟩, .int .i64 0, .int .i64 0, .int .i64 0, .int .i64 0, .bool false], .slice none 0 0, .int .i64 0, .int .i64 0, .int .i64 0], []⟩ 8 (by kernel_rfl) (by kernel_rfl) (by kernel_rfl) (by kernel_rfl))
    (by kernel_rfl) rfl rfl ?_ ?_
  · intro vs ds W p hA
    rw [Try.params7] at hA
    obtain ⟨v0, vs0, d0, ds0, p0, q0, rfl, rfl, rfl, h0, r0⟩ := trodAll_cons hA
    obtain ⟨v1, vs1, d1, ds1, p1, q1, rfl, rfl, rfl, h1, r1⟩ := trodAll_cons r0
    obtain ⟨v2, vs2, d2, ds2, p2, q2, rfl, rfl, rfl, h2, r2⟩ := trodAll_cons r1
    obtain ⟨v3, vs3, d3, ds3, p3, q3, rfl, rfl, rfl, h3, r3⟩ := trodAll_cons r2
    obtain ⟨v4, vs4, d4, ds4, p4, q4, rfl, rfl, rfl, h4, r4⟩ := trodAll_cons r3
    obtain ⟨rfl, rfl, rfl⟩ := trodAll_nil r4
    rfl
  · intro W base args ds p hval hA
    rw [Try.params7] at hA hval
    obtain ⟨v0, vs0, d0, ds0, p0, q0, hargs, rfl, rfl, h0, r0⟩ := trodAll_cons hA
    obtain ⟨v1, vs1, d1, ds1, p1, q1, rfl, rfl, rfl, h1, r1⟩ := trodAll_cons r0
    obtain ⟨v2, vs2, d2, ds2, p2, q2, rfl, rfl, rfl, h2, r2⟩ := trodAll_cons r1
    obtain ⟨v3, vs3, d3, ds3, p3, q3, rfl, rfl, rfl, h3, r3⟩ := trodAll_cons r2
    obtain ⟨v4, vs4, d4, ds4, p4, q4, rfl, rfl, rfl, h4, r4⟩ := trodAll_cons r3
    obtain ⟨rfl, rfl, rfl⟩ := trodAll_nil r4
    obtain rfl : args = #[v0, v1, v2, v3, v4] := by cases args; simp_all
    obtain ⟨t0, rfl, w0⟩ := open_terms (hval 0 23 v0 rfl rfl) h0
    obtain ⟨l1, hs1, hf1⟩ := open_evs (hval 1 24 v1 rfl rfl) h1
    obtain ⟨a2, rfl, rfl, rfl, w2⟩ := open_int Try.underlying3 (hval 2 3 v2 rfl rfl) h2
    obtain ⟨a3, rfl, rfl, rfl, w3⟩ := open_int Try.underlying2 (hval 3 2 v3 rfl rfl) h3
    obtain ⟨a4, rfl, rfl, rfl, w4⟩ := open_int Try.underlying3 (hval 4 3 v4 rfl rfl) h4
    exact walk W t0 w0 l1 v1 hs1 hf1 a2 w2 a3 w3 a4 w4

theorem over : Rows.undertakeNextsRow.holds Try.pinned (OpenSpec.ofChange Rows.undertakeNextsSpec) :=
  OpenClaim.holds_of_wide 7 Try.f7 rfl rfl rfl rfl rfl rfl rfl ⟨rfl, rfl, rfl, rfl, rfl⟩ rfl rfl rfl rfl rfl (by kernel_rfl) Try.func7 (by kernel_rfl)
    (of_decide_eq_true (by kernel_rfl)) (by unfold Func.isWrapper; rw [if_neg (by decide +kernel)]; exact ⟨rfl, rfl⟩)
    (fun os started H enc _ => lifted os started H enc)

/-- The statement. -/
theorem proved : Rows.UndertakeNextsSaid := over
#print axioms proved
end Go.Proofs.Ytjabjfkfoenmlaa.undertakeNexts
