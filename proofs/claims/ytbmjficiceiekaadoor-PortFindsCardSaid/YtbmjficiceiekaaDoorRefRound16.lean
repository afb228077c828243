/- The reference's round. -/
import Derived.Test.YtbmjficiceiekaaDoorRcSet16
import Derived.Test.YtbmjficiceiekaaDoorGrowB
import Derived.Test.YtbmjficiceiekaaDoorOwnC
import Derived.Test.YtbmjficiceiekaaDoorCop16
import Derived.Test.YtbmjficiceiekaaDoorFillR
import Derived.Test.YtbmjficiceiekaaDoorRefRight16
import Derived.StillTailTactics
namespace Go.Proofs.YtbmjficiceiekaaDoor.Sc
open Go Go.RowKit Go.ChangeShapes Go.WideShapes Go.ChangeAt
set_option maxRecDepth 100000

/-- What is reached, in a row of its own, its legs too. -/
def OutOk (w : World) (B : Nat) (v : Value) (m : List Rc) : Prop := w.ownsRow B 64 3 v m.length (rcCells m) ∧ ∀ x ∈ m, w.ownsRow 0 37 3 x.val x.legs.length (lgCells x.legs)
theorem OutOk.below {w w' : World} {B : Nat} {v : Value} {m : List Rc} (h : OutOk w B v m) (hb : Below w.heap.size w w') : OutOk w' B v m := ⟨ownsRow_below h.1 hb, fun x hx => ownsRow_below (h.2 x hx) hb⟩
def RoundP (w : World) (T : Rf) (N : Nat) (e : Ending) (w' : World) : Prop := ∃ v m, e = .returned v ∧ OutOk w' w.heap.size v m ∧ rfOf m = T ∧ m.length ≤ N ∧ Below w.heap.size w w'
set_option maxHeartbeats 16000000 in
theorem refRound_any (l : List Vm) (vl : Value) (m0 : List Rc) (vo : Value) (fr : ByteArray) (ch : Int) (w : World) (hs : VsAt w vl l) (hf : ∀ x ∈ l, x.fit) (ho : Sl w 3 vo (m0.map Rc.row)) (hov : ∀ x ∈ m0, w.ownsRow 0 37 3 x.val x.legs.length (lgCells x.legs)) (hch : 0 ≤ ch ∧ ch ≤ 1048576)
    (hRB : ∀ p d ls, rfOf m0 p = some (d, ls) → (p = fr → ls = []) ∧ (p ≠ fr → ls ≠ [] ∧ 0 ≤ d ∧ d ≤ 1048576) ∧ ls.length ≤ 8) (N : Nat) (hN : m0.length + (restV (rfOf m0) fr ch (l.map cleanV) 0).length ≤ N) (hNN : N ≤ 1000000) (h64 : l.length ≤ 4000) :
    Calls Tryd.prog 33 #[vl, vo, .string fr, .int .i64 ch] w (RoundP w (nextR (l.map cleanV) fr ch (rfOf m0)) N) := by
  obtain ⟨i0, hi, hz, hsz, hby⟩ := info_parts infoRc
  have HIR := Lib.hid (And.intro hi (And.intro hz (And.intro hsz hby)))
  clear hi hz hsz hby
  obtain ⟨i1, hi, hz, hsz, hby⟩ := info_parts infoLg
  have HIL := Lib.hid (And.intro hi (And.intro hz (And.intro hsz hby)))
  clear hi hz hsz hby
  have hml : m0.length ≤ 9223372036854775807 := by omega
  obtain ⟨a, c, rfl⟩ : ∃ a c, vl = .slice a l.length c := by simpa using hs.1.shape
  obtain ⟨ao, co, rfl⟩ : ∃ a c, vo = .slice a m0.length c := by simpa using ho.shape
  have HS := Lib.hid hs
  have HF := Lib.hid hf
  have HO := Lib.hid ho
  have HOV := Lib.hid hov
  have HCH := Lib.hid hch
  have HNN := Lib.hid hNN
  obtain ⟨V, hV⟩ : ∃ V, V = l.map cleanV := ⟨_, rfl⟩
  obtain ⟨R, hR⟩ : ∃ R, R = rfOf m0 := ⟨_, rfl⟩
  obtain ⟨T, hT⟩ : ∃ T, T = nextR V fr ch R := ⟨_, rfl⟩
  rw [← hV, ← hR] at hN
  rw [← hR] at hRB
  rw [← hV, ← hR, ← hT]
  rw [nextR_fold] at hT
  have HVD := Lib.hid hV
  have HRN : Hid (∀ p, rIdx m0 p = none → R p = none) := Lib.hid (fun p h => by rw [hR]; exact rfOf_none h)
  have HRS : Hid (∀ p j (hj : j < m0.length), rIdx m0 p = some j → R p = some (m0[j].day, m0[j].legs)) := Lib.hid (fun p j hj h => by rw [hR]; exact rfOf_some h hj)
  have HRB := Lib.hid hRB
  have HR0 := Lib.hid hR
  have HT0 := Lib.hid hT
  have HN0 := Lib.hid hN
  obtain ⟨m1, hm1⟩ : ∃ m, idxI none = m := ⟨_, rfl⟩
  have HM1 := Lib.hid hm1
  have t0 : decide (m1 < (0 : Int)) = true := by rw [← hm1]; decide
  have HVC : Hid (l.length ≤ 4000) := Lib.hid h64
  have HSRC : Hid (Src (w.alloc (.cells #[] 64)) 3 (.slice ao m0.length co) m0.length (rcCells m0)) := Lib.hid (src_rcs (ho.below (one_below _ _) (Nat.le_refl _)))
  have HON : Hid (∀ u ∈ rcCells m0, u.oneCell' = true) := Lib.hid (rcCells_ones m0 fun x hx => own_slice (hov x hx))
  have HL0 : Hid (0 + m0.length ≤ maxLen ∧ (0 + m0.length) * 48 ≤ 140737488355328) := Lib.hid (by simp only [maxLen]; omega)
  have hll : l.length ≤ 9223372036854775807 := by omega
  clear hs hf ho hov hch hRB hR hT hN hV hNN hm1 h64
  go_enter Tryd.func33, Tryd.ntmps33
  go_wp2_with (first
    | ((refine Any.wpl_append (size := 3) (bytes := 48) (n := 0) (m := m0.length) (base := w.heap.size) (vx := .slice (some ⟨w.heap.size, 0, none⟩) 0 0) (vy := .slice ao m0.length co) ?_ ?_ ?_ Tryd.underlying65 HIR.out.1 HIR.out.2.1 HIR.out.2.2.1 HIR.out.2.2.2 ?_ (by decide) (own_empty (Nat.le_refl _)) HSRC.out HON.out HL0.out.1 HL0.out.2 (by simp) ?_); rfl; rfl; rfl; rfl; intro v1 w1 hown1 hgrow1 hwho1
       rw [List.nil_append, Nat.zero_add] at hown1
       have HO1 := Lib.hid hown1
       have HB1 := Lib.hid ((one_below w (.cells #[] 64)).grown hgrow1 (by simp) (fun k hk => by have : w.heap.size = k := Option.some.inj hk; omega))
       clear hown1 hgrow1 hwho1)
    | fail)
  go_loopw [9, 10, 11, 12, 13, 14, 15, 16, 17] (fun o i _ _ _ _ _ _ _ wr => ∃ (k : Nat) (v : Value) (m : List Rc), k ≤ l.length ∧ i = .int .i64 k ∧ o = v ∧ OutOk wr w.heap.size v m ∧ (restV R fr ch (V.drop k) k).foldl (stepO V R fr) (rfOf m) = T ∧ m.length + (restV R fr ch (V.drop k) k).length ≤ N ∧ Below w.heap.size w wr) (fun _ i _ _ _ _ _ _ _ _ => l.length - (intOf i).toNat)
  case atStart => exact ⟨0, v1, m0, Nat.zero_le _, rfl, rfl, ⟨HO1.out, fun x hx => ownsRow_below (HOV.out x hx) HB1.out⟩, by rw [List.drop_zero, ← HR0.out]; exact HT0.out.symm, by rw [List.drop_zero]; exact HN0.out, HB1.out⟩
  case round =>
    obtain ⟨k, uo, m, hk, rfl, rfl, hok, htt, hct, hbel⟩ := hrel
    have HOK := Lib.hid hok
    have HBR := Lib.hid hbel
    by_cases hlt : k < l.length
    · have hki : ((k : Nat) : Int) < (l.length : Int) := by omega
      have hVl : k < V.length := by rw [HVD.out, List.length_map]; exact hlt
      rw [restV_next R fr ch V k hVl] at htt hct
      have HVG : Hid (V[k]? = some (cleanV l[k])) := Lib.hid (by rw [HVD.out]; exact clean_get hlt)
      have HVK0 : Hid (V[k] = cleanV l[k]) := Lib.hid (by have h := HVG.out; rw [List.getElem?_eq_getElem hVl] at h; exact Option.some.inj h)
      rw [HVK0.out] at htt hct
      obtain ⟨bv, ov, rfl, hbvl, e0, e1, hcs⟩ := vs_at HS.out hlt
      have HFX := HF.out _ (List.getElem_mem hlt)
      have HCS := Lib.hid hcs
      have HMY := Lib.hid (fun W (hW : Below w.heap.size w W) => refMayP_any l[k].ship l[k].val l[k].calls W (hcs.below hW (Nat.le_refl _)) HFX.1 HFX.2)
      have HE := Lib.hid (fun W (hW : Below w.heap.size w W) => And.intro ((hW.cell (p := ⟨bv, ov + k * 2, none⟩) hbvl).trans e0) ((hW.cell (p := ⟨bv, ov + k * 2 + 1, none⟩) hbvl).trans e1))
      obtain ⟨e0, e1⟩ := HE.out wr HBR.out
      have HKL := Lib.hid hlt
      clear hcs HFX hbvl hok hbel
      generalize l[k] = v at *
      obtain ⟨sh, val, cs⟩ := v
      simp only at HMY HE HCS e0 e1
      obtain ⟨ac, cc, rfl⟩ : ∃ a c, val = .slice a cs.length c := by simpa using HCS.out.shape
      cases hmay : mayV sh cs with
      | false =>
        rw [hmay] at HMY
        have h0 := clean_not (v := ⟨sh, .slice ac cs.length cc, cs⟩) hmay
        rw [h0] at htt hct
        have HTT : Hid ((restV R fr ch (V.drop (k + 1)) (k + 1)).foldl (stepO V R fr) (rfOf m) = T) := Lib.hid htt
        have HCT : Hid (m.length + (restV R fr ch (V.drop (k + 1)) (k + 1)).length ≤ N) := Lib.hid hct
        clear htt hct h0 hmay HVG HVK0 hVl
        go_wp2_with (first
          | ((with_reducible refine (HMY.out _ HBR.out).mono ?_); rintro e w2 ⟨rfl, hb2⟩; have HB2 := Lib.hid (HBR.out.trans (hb2.mono HBR.out.size)); have HOK2 := Lib.hid (HOK.out.below hb2); clear hb2)
          | fail)
        go_roundw
        case rel => exact ⟨k + 1, _, m, HKL.out, by go_num, rfl, HOK2.out, HTT.out, HCT.out, HB2.out⟩
        case measure => have := HKL.out; (simp [intOf]) <;> omega
      | true =>
        rw [hmay] at HMY
        have h0 := clean_may (v := ⟨sh, .slice ac cs.length cc, cs⟩) hmay
        rw [h0] at htt hct
        have HVK : Hid (V[k]? = some ⟨sh, .slice ac cs.length cc, cs⟩) := Lib.hid (by rw [HVG.out, h0])
        have HN64 : Hid (cs.length ≤ 64) := Lib.hid (mayV_cs hmay).2.2.1
        have hcl : cs.length ≤ 9223372036854775807 := by have := HN64.out; omega
        obtain ⟨n, hn⟩ : ∃ n, n = cs.length := ⟨_, rfl⟩
        have HCN := Lib.hid hn
        simp only [← hn] at htt hct
        rw [← hn] at HN64 hcl HE e1 HMY HCS
        have HTT := Lib.hid htt
        have HCT := Lib.hid hct
        clear htt hct h0 hmay HVG HVK0 hVl hn
        go_wp2_with (first
          | ((with_reducible refine (HMY.out _ HBR.out).mono ?_); rintro e w2 ⟨rfl, hb2⟩; have HB2 := Lib.hid (HBR.out.trans (hb2.mono HBR.out.size)); have HOK2 := Lib.hid (HOK.out.below hb2); have e1 := (HE.out w2 HB2.out).2; clear hb2)
          | fail)
        go_loopw [9, 12, 13, 14, 15, 16, 17] (fun o av _ _ _ _ _ wr => ∃ (a : Nat) (v : Value) (m : List Rc), a ≤ n ∧ av = .int .i64 a ∧ o = v ∧ OutOk wr w.heap.size v m ∧ (restC R fr ch k n (cs.drop a) a ++ restV R fr ch (V.drop (k + 1)) (k + 1)).foldl (stepO V R fr) (rfOf m) = T ∧ m.length + (restC R fr ch k n (cs.drop a) a ++ restV R fr ch (V.drop (k + 1)) (k + 1)).length ≤ N ∧ Below w.heap.size w wr) (fun _ av _ _ _ _ _ _ => n - (intOf av).toNat)
        case atStart => exact ⟨0, _, m, Nat.zero_le _, rfl, rfl, HOK2.out, HTT.out, HCT.out, HB2.out⟩
        case round =>
          clear HTT HCT HOK2 HOK
          obtain ⟨a, uo, m, ha, rfl, rfl, hok, htt, hct, hbel⟩ := hrel
          have HOK := Lib.hid hok
          have HBR := Lib.hid hbel
          by_cases hla : a < n
          · have hla' : a < cs.length := by rw [← HCN.out]; exact hla
            rw [restC_next R fr ch k n cs a hla'] at htt hct
            obtain ⟨bc, oc, rfl, hbcl, hpe⟩ := cl_at HCS.out hla'
            have HPA := Lib.hid (fun W (hW : Below w.heap.size w W) => And.intro (hpe.below hbcl hW).1 (hpe.below hbcl hW).2.1)
            obtain ⟨g0, g1⟩ := HPA.out wr hbel
            have HFRC : Hid (∀ b, frC V ⟨k, a, b⟩ = some cs[a]) := Lib.hid (fun b => by rw [frC, HVK.out, Option.bind_some]; exact List.getElem?_eq_getElem hla')
            have HAL : Hid (a + 1 ≤ n) := Lib.hid hla
            have hai : ((a : Nat) : Int) < (n : Int) := by omega
            have hai0 : (a : Int) ≤ 1000000 := by have := HN64.out; omega
            have HFD := Lib.hid (fun W (hW : Below w.heap.size w W) => find_any m0 (.slice ao m0.length co) cs[a].port W (HO.out.below hW (Nat.le_refl _)))
            clear hbcl hpe ha hok hbel
            generalize cs[a] = ca at *
            clear hla hla'
            obtain ⟨cp, cu, cx, cd⟩ := ca
            simp only at HPA g0 g1 HFD
            cases hri0 : rIdx m0 cp with
            | none =>
              have hrd : rdyC R fr ch ⟨cp, cu, cx, cd⟩ = false := by unfold rdyC; simp only; rw [HRN.out cp hri0]
              rw [hrd, if_neg (by decide), List.nil_append] at htt hct
              have HTA := Lib.hid htt
              have HCA := Lib.hid hct
              rw [hri0, HM1.out] at HFD
              clear htt hct hrd hri0
              go_wp2_with (first
                | ((with_reducible refine (HFD.out _ HBR.out).mono ?_); rintro e w3 ⟨rfl, hb3⟩; have HB3 := Lib.hid (HBR.out.trans (hb3.mono HBR.out.size)); have HOK3 := Lib.hid (HOK.out.below hb3); clear hb3)
                | fail)
              go_roundw
              case rel => exact ⟨a + 1, _, m, HAL.out, by go_num, rfl, HOK3.out, HTA.out, HCA.out, HB3.out⟩
              case measure => have := HAL.out; (simp [intOf]) <;> omega
            | some j =>
              obtain ⟨hjl, -⟩ := rIdx_port hri0
              have hRJ := HRS.out cp j hjl hri0
              rw [hri0, show idxI (some j) = (j : Int) from rfl] at HFD
              obtain ⟨bo, oo, hao, hbo, hpo⟩ := rc_at HO.out hjl
              have HBO := Lib.hid hbo
              subst hao
              have hzr := HOV.out _ (List.getElem_mem hjl)
              obtain ⟨dz, hdz⟩ : ∃ d, m0[j].day = d := ⟨_, rfl⟩
              obtain ⟨lz, hlz⟩ : ∃ d, m0[j].legs = d := ⟨_, rfl⟩
              obtain ⟨vz, hvz⟩ : ∃ d, m0[j].val = d := ⟨_, rfl⟩
              have HOC := Lib.hid (fun W (hW : Below w.heap.size w W) => And.intro (hpo.below hbo hW).2.1 (hpo.below hbo hW).2.2)
              rw [hdz, hvz] at HOC
              rw [hdz, hlz] at hRJ
              rw [hvz, hlz] at hzr
              obtain ⟨nz, hnz⟩ : ∃ n, n = lz.length := ⟨_, rfl⟩
              rw [← hnz] at hzr
              obtain ⟨az, cz, rfl⟩ := Ord.row_slice hzr
              have HNZ := Lib.hid hnz
              have HSZ0 : Hid (∀ W, Below w.heap.size w W → Src W 3 (.slice az nz cz) nz (lgCells lz)) := Lib.hid (fun W hW => by
                have h := src_lgs (own_lgs (ownsRow_below hzr hW) HNZ.out)
                rw [← HNZ.out] at h
                exact h)
              have hrb := HRB.out cp dz lz hRJ
              have HLL : Hid ((0 + nz ≤ maxLen) ∧ (0 + nz) * 24 ≤ 140737488355328 ∧ nz + 1 ≤ maxLen ∧ (nz + 1) * 24 ≤ 140737488355328) := Lib.hid (by have := HNZ.out; have := hrb.2.2; simp only [maxLen]; omega)
              have HLG : Hid (legsR R cp = lz) := Lib.hid (legsR_some hRJ)
              have hrd : rdyC R fr ch ⟨cp, cu, cx, cd⟩ = decide (dz + waitC fr ch cp ≤ cu) := by unfold rdyC; simp only; rw [hRJ]
              rw [hrd, List.append_assoc] at htt hct
              have hjz : ((j : Nat) : Int) < (m0.length : Int) := by omega
              have tj : decide ((j : Int) < 0) = false := decide_eq_false (by omega)
              have HOZ := Lib.hid (fun W hW => (HOC.out W hW).2)
              have HOD := Lib.hid (fun W hW => (HOC.out W hW).1)
              have hbe : (cp = fr ∧ nz = 0) ∨ (cp ≠ fr ∧ 0 < nz ∧ 0 ≤ dz ∧ dz ≤ 1048576) := by
                by_cases he : cp = fr
                · exact .inl ⟨he, by rw [hnz, hrb.1 he]; rfl⟩
                · obtain ⟨h1, h2⟩ := hrb.2.1 he
                  exact .inr ⟨he, by rw [hnz]; exact List.length_pos_iff.2 h1, h2⟩
              clear hri0 hRJ hbo hpo hzr hdz hlz hvz hnz hrb hrd hjl HOC
              have hnz9 : nz ≤ 9223372036854775807 := by have := HLL.out; simp only [maxLen] at this; omega
              rcases hbe with ⟨hcf, hn0⟩ | ⟨hcf, hn0, hd0, hd1⟩
              · have hw : waitC fr ch cp = 0 := by unfold waitC; exact if_pos hcf
                rw [hw, Int.add_zero] at htt hct
                have ty : decide ((0 : Int) < (nz : Int)) = false := decide_eq_false (by omega)
                have ty' : decide (0 < nz) = false := decide_eq_false (by omega)
                clear hcf hn0 hw
                by_cases hrq : dz ≤ cu
                · have tq : decide (cu < dz) = false := decide_eq_false (by omega)
                  rw [decide_eq_true hrq, if_pos rfl] at htt hct
                  have HTR := Lib.hid (And.intro htt hct)
                  clear htt hct hrq
                  go_wp2_with (first
                    | ((with_reducible refine (HFD.out _ HBR.out).mono ?_); rintro e w3 ⟨rfl, hb3⟩; have HB2R := Lib.hid (HBR.out.trans (hb3.mono HBR.out.size)); have HOK2 := Lib.hid (HOK.out.below hb3); have z1 := HOD.out w3 HB2R.out; have z2 := HOZ.out w3 HB2R.out; have g1 := (HPA.out w3 HB2R.out).2; clear hb3)
                    | fail)
                  clear z1 z2 g0 g1 tq ty ty' tj
                  go_loopw [9, 15, 16, 17] (fun o bv _ _ wr => ∃ (b : Nat) (v : Value) (m : List Rc), a + 1 ≤ b ∧ b ≤ n ∧ bv = .int .i64 b ∧ o = v ∧ OutOk wr w.heap.size v m ∧ (restT k a b n ++ (restC R fr ch k n (cs.drop (a + 1)) (a + 1) ++ restV R fr ch (V.drop (k + 1)) (k + 1))).foldl (stepO V R fr) (rfOf m) = T ∧ m.length + (restT k a b n ++ (restC R fr ch k n (cs.drop (a + 1)) (a + 1) ++ restV R fr ch (V.drop (k + 1)) (k + 1))).length ≤ N ∧ Below w.heap.size w wr) (fun _ bv _ _ _ => n - (intOf bv).toNat)
                  case atStart => exact ⟨a + 1, _, _, Nat.le_refl _, HAL.out, by go_num, rfl, HOK2.out, HTR.out.1, HTR.out.2, HB2R.out⟩
                  case round =>
                    obtain ⟨b, uo, m, hab, hbn, rfl, rfl, hok, htt, hct, hbel⟩ := hrel
                    have HOWR := Lib.hid hok.1
                    have HVOR := Lib.hid hok.2
                    have HBR := Lib.hid hbel
                    by_cases hlb : b < n
                    · rw [restT_next k a b n hlb, List.cons_append] at htt hct
                      rw [List.foldl_cons] at htt
                      rw [List.length_cons] at hct
                      have HTT := Lib.hid htt
                      have HCT := Lib.hid hct
                      have HBL := Lib.hid (And.intro hab hlb)
                      have HLB := Lib.hid hlb
                      have hbi : ((b : Nat) : Int) < (n : Int) := by omega
                      have hbi0 : (b : Int) ≤ 1000000 := by have := HN64.out; omega
                      have hlb' : b < cs.length := by rw [← HCN.out]; exact hlb
                      have HARC : Hid (arrC V ⟨k, a, b⟩ = some cs[b]) := Lib.hid (by rw [arrC, HVK.out, Option.bind_some]; exact List.getElem?_eq_getElem hlb')
                      have HLOK : Hid (LgOk V ⟨k, a, b⟩) := Lib.hid ⟨_, HVK.out, by show a < b; omega, hlb'⟩
                      obtain ⟨bc', oc', he', hbcl, hpe⟩ := cl_at HCS.out hlb'
                      simp only [Option.some.injEq, Addr.mk.injEq, and_true] at he'
                      obtain ⟨rfl, rfl⟩ := he'
                      have HPE := Lib.hid (fun W (hW : Below w.heap.size w W) => And.intro (hpe.below hbcl hW).1 (And.intro (hpe.below hbcl hW).2.2.1 True.intro))
                      have f0 := (HPE.out wr hbel).1
                      have HFR := Lib.hid (reachL_eq (R := R) HARC.out (HFRC.out b))
                      clear hok htt hct hbel hpe hbcl hab hbn
                      generalize cs[b] = e at *
                      clear hlb hlb'
                      obtain ⟨ep, eu, ea, ed⟩ := e
                      simp only at HPE f0 HFR
                      by_cases hef : ep = fr
                      · have t8 : (ep.toList == fr.toList) = true := by rw [str_beq, decide_eq_true hef]
                        have HST : Hid (stepO V R fr (rfOf m) ⟨k, a, b⟩ = rfOf m) := Lib.hid (by unfold stepO; rw [HARC.out]; exact if_pos hef)
                        clear hef
                        go_wp2_with fail
                        go_roundw
                        case rel => exact ⟨b + 1, _, m, Nat.le_succ_of_le HBL.out.1, HBL.out.2, by go_num, rfl, ⟨HOWR.out, HVOR.out⟩, by have := HTT.out; rw [HST.out] at this; exact this, by have := HCT.out; omega, HBR.out⟩
                        case measure => have := HBL.out; (simp [intOf]) <;> omega
                      have t8 : (ep.toList == fr.toList) = false := by rw [str_beq, decide_eq_false hef]
                      have z2 := HOZ.out wr HBR.out
                      have HLO : Hid (∀ u ∈ (#[.int .i64 (k : Int), .int .i64 (a : Int), .int .i64 (b : Int)] : Array Value).toList, u.oneCell' = true) := Lib.hid (lg_one ⟨k, a, b⟩)
                      have lbo : bo < wr.heap.size := Nat.lt_of_lt_of_le HBO.out HBR.out.size
                      have HSZ : Hid (Src (wr.alloc (.cells #[] 37)) 3 (.slice az nz cz) nz (lgCells lz)) := Lib.hid (HSZ0.out _ (HBR.out.alloc HBR.out.size _))
                      have HLR : Hid (m.length + 1 ≤ maxLen ∧ (m.length + 1) * 48 ≤ 140737488355328) := Lib.hid (by have := HCT.out; have := HNN.out; simp only [maxLen]; omega)
                      cases hri : rIdx m ep with
                      | none =>
                        have HRI : Hid (idxI (rIdx m ep) = m1) := Lib.hid (by rw [hri]; exact HM1.out)
                        have HTN : Hid ((∀ v, rfOf (m ++ [⟨ep, ea, v, legsR R cp ++ [Lg.mk k a b]⟩]) = stepO V R fr (rfOf m) ⟨k, a, b⟩) ∧ (restT k a (b + 1) n ++ (restC R fr ch k n (cs.drop (a + 1)) (a + 1) ++ restV R fr ch (V.drop (k + 1)) (k + 1))).foldl (stepO V R fr) (stepO V R fr (rfOf m) ⟨k, a, b⟩) = T) := Lib.hid ⟨fun v => by
                          rw [rfOf_append (y := ⟨ep, ea, v, legsR R cp ++ [Lg.mk k a b]⟩) hri]
                          unfold stepO
                          rw [HARC.out]
                          simp only
                          rw [if_neg hef, rfOf_none hri, HFR.out], HTT.out⟩
                        clear hef hri
                        go_wp2_with (first
                          | ((refine Any.wpl_append (size := 3) (bytes := 24) (n := 0) (m := nz) (base := wr.heap.size) (vx := .slice (some ⟨wr.heap.size, 0, none⟩) 0 0) (vy := .slice az nz cz) ?_ ?_ ?_ Tryd.underlying26 HIL.out.1 HIL.out.2.1 HIL.out.2.2.1 HIL.out.2.2.2 ?_ (by decide) (own_empty (Nat.le_refl _)) HSZ.out (lgCells_one _) HLL.out.1 HLL.out.2.1 (by simp) ?_); rfl; rfl; rfl; rfl; intro v4 w4 hown4 hgrow4 hwho4
                             rw [List.nil_append, Nat.zero_add] at hown4
                             have HO4 := Lib.hid hown4
                             have HB4 := Lib.hid ((one_below wr (.cells #[] 37)).grown hgrow4 (by simp) (fun q hq => by have : wr.heap.size = q := Option.some.inj hq; omega))
                             have HL4 : Hid (nz + 1 ≤ maxLen ∧ (nz + 1) * 24 ≤ 140737488355328 ∧ wr.heap.size ≤ w4.heap.size) := Lib.hid ⟨HLL.out.2.2.1, HLL.out.2.2.2, HB4.out.size⟩
                             obtain ⟨a4, c4, rfl⟩ := Ord.row_slice hown4
                             clear hown4 hgrow4 hwho4)
                          | (((with_reducible refine Any.wpl_push ?_ ?_ ?_ Tryd.underlying26 HIL.out.1 HIL.out.2.1 HIL.out.2.2.1 HIL.out.2.2.2 ?_ (by decide) ?_ (HLO.out) (HO4.out) HL4.out.1 HL4.out.2.1 HL4.out.2.2 ?_); rfl; rfl; rfl; rfl; rfl; intro v5 w5 hown5 hgrow5 hwho5)
                             have HO5 := Lib.hid hown5
                             have HB5 := Lib.hid (HB4.out.grown hgrow5 HB4.out.size (fun q hq => by have := (HO4.out.lt q hq).1; omega))
                             have HBW := Lib.hid (HBR.out.trans (HB5.out.mono HBR.out.size))
                             have HOW := Lib.hid (ownsRow_below HOWR.out HB5.out)
                             have HFO := Lib.hid (by rw [← HRI.out]; exact find_any m u9 ep w5 (own_rcs HOW.out rfl) : Calls Tryd.prog 35 #[u9, .string ep] w5 (Ret w5 (.int .i64 m1)))
                             obtain ⟨al, nl, cl, rfl⟩ := own_slice hown5
                             clear hown5 hgrow5 hwho5
                             have f0 := (HPE.out w5 HBW.out).1)
                          | ((with_reducible refine (HFO.out).mono ?_); rintro e w7 ⟨rfl, hb7⟩
                             have HB57 := Lib.hid hb7
                             (have HLN : Hid (w7.ownsRow 0 37 3 (.slice al nl cl) (legsR R cp ++ [Lg.mk k a b]).length (lgCells (legsR R cp ++ [Lg.mk k a b]))) := Lib.hid (by
                               have h := ownsRow_base (ownsRow_below HO5.out hb7) (Nat.zero_le _)
                               rw [HLG.out, List.length_append, lgCells_append, ← HNZ.out]
                               exact h))
                             have HVO := Lib.hid (fun x hx => ownsRow_below (HVOR.out x hx) (HB5.out.trans (hb7.mono HB5.out.size)))
                             have HOW := Lib.hid (ownsRow_below HOW.out hb7)
                             have HBW := Lib.hid (HBW.out.trans (hb7.mono HBW.out.size)); clear hb7)
                          | fail)
                        have HQE : Hid (∀ W, Keep (fun b => u9.ownBlock = some b) w7 W → W.cell? ⟨bc, oc + b * 4, none⟩ = some (.string ep) ∧ W.cell? ⟨bc, oc + b * 4 + 2, none⟩ = some (.int .i64 ea)) := Lib.hid (fun W hW => by
                          have h := HPE.out W (hW.behind HBW.out HBW.out.size (fun q hq e => by have := (HOW.out.lt q e).1; omega))
                          exact ⟨h.1, h.2.1⟩)
                        go_wp2_with fail
                        refine Ord.region_lit (fun
                          | 0 => Ord.val (u9)
                          | 1 => Ord.val (.slice (some ⟨bc, oc, none⟩) n cc)
                          | 2 => Ord.val (.int .i64 (b : Int))
                          | 3 => Ord.val (.pointer (some ⟨bc, oc + b * 4, none⟩))
                          | 4 => Ord.val (.pointer (some ⟨bc, oc + b * 4, none⟩))
                          | 5 => Ord.val (.string ep)
                          | 6 => Ord.val (.slice (some ⟨bc, oc, none⟩) n cc)
                          | 7 => Ord.val (.int .i64 (b : Int))
                          | 8 => Ord.val (.pointer (some ⟨bc, oc + b * 4, none⟩))
                          | 9 => Ord.val (.pointer (some ⟨bc, oc + b * 4 + 2, none⟩))
                          | 10 => Ord.val (.int .i64 ea)
                          | 11 => Ord.val (.slice al nl cl)
                          | 12 => Ord.val (.agg #[.string ep, .int .i64 ea, .slice al nl cl])
                          | 13 => Ord.one 64 #[.string ep, .int .i64 ea, .slice al nl cl]
                          | 14 => Ord.grownB w.heap.size 64 3 (m.length + 1) (rcCells m ++ (#[.string ep, .int .i64 ea, .slice al nl cl] : Array Value).toList) 13 u9
                          | 15 => Ord.own w.heap.size 64 3 (m.length + 1) (rcCells m ++ (#[.string ep, .int .i64 ea, .slice al nl cl] : Array Value).toList) [14]
                          | _ => Ord.idle) (fun b => u9.ownBlock = some b) (by kernel_rfl) (by kernel_rfl) (by kernel_rfl) ?_ ?_ ?_ ?_
                        · intro i _
                          match i with
                          | 0 => exact Ord.lasts_val _
                          | 1 => exact Ord.lasts_val _
                          | 2 => exact Ord.lasts_val _
                          | 3 => exact Ord.lasts_val _
                          | 4 => exact Ord.lasts_val _
                          | 5 => exact Ord.lasts_val _
                          | 6 => exact Ord.lasts_val _
                          | 7 => exact Ord.lasts_val _
                          | 8 => exact Ord.lasts_val _
                          | 9 => exact Ord.lasts_val _
                          | 10 => exact Ord.lasts_val _
                          | 11 => exact Ord.lasts_val _
                          | 12 => exact Ord.lasts_val _
                          | 13 => exact Ord.lasts_one _ _
                          | 14 => exact Ord.lasts_grownB _ _ _ _ _ _ _
                          | 15 => exact Ord.lasts_own _ _ _ _ _ _
                          | n + 16 => exact Ord.lasts_idle
                        · refine ⟨fun k b _ hh => ?_, fun k b _ hh => ?_, fun k k' b _ _ hne h1 h2 => ?_⟩
                          · match k, hh with
                            | 0, hh => exact hh.elim
                            | 1, hh => exact hh.elim
                            | 2, hh => exact hh.elim
                            | 3, hh => exact hh.elim
                            | 4, hh => exact hh.elim
                            | 5, hh => exact hh.elim
                            | 6, hh => exact hh.elim
                            | 7, hh => exact hh.elim
                            | 8, hh => exact hh.elim
                            | 9, hh => exact hh.elim
                            | 10, hh => exact hh.elim
                            | 11, hh => exact hh.elim
                            | 12, hh => exact hh.elim
                            | 13, hh => exact hh.elim
                            | 14, hh => exact hh
                            | 15, hh => exact hh.elim
                            | m + 16, hh => exact hh.elim
                          · match k, hh with
                            | 0, hh => exact hh.elim
                            | 1, hh => exact hh.elim
                            | 2, hh => exact hh.elim
                            | 3, hh => exact hh.elim
                            | 4, hh => exact hh.elim
                            | 5, hh => exact hh.elim
                            | 6, hh => exact hh.elim
                            | 7, hh => exact hh.elim
                            | 8, hh => exact hh.elim
                            | 9, hh => exact hh.elim
                            | 10, hh => exact hh.elim
                            | 11, hh => exact hh.elim
                            | 12, hh => exact hh.elim
                            | 13, hh => exact hh.elim
                            | 14, hh => exact (HOW.out.lt _ hh).2
                            | 15, hh => exact hh.elim
                            | m + 16, hh => exact hh.elim
                          · have a : (k = 14 ∧ (fun b => u9.ownBlock = some b) b) := by
                              match k, h1 with
                              | 0, hh => exact hh.elim
                              | 1, hh => exact hh.elim
                              | 2, hh => exact hh.elim
                              | 3, hh => exact hh.elim
                              | 4, hh => exact hh.elim
                              | 5, hh => exact hh.elim
                              | 6, hh => exact hh.elim
                              | 7, hh => exact hh.elim
                              | 8, hh => exact hh.elim
                              | 9, hh => exact hh.elim
                              | 10, hh => exact hh.elim
                              | 11, hh => exact hh.elim
                              | 12, hh => exact hh.elim
                              | 13, hh => exact hh.elim
                              | 14, hh => exact ⟨rfl, hh⟩
                              | 15, hh => exact hh.elim
                              | m + 16, hh => exact hh.elim
                            have a' : (k' = 14 ∧ (fun b => u9.ownBlock = some b) b) := by
                              match k', h2 with
                              | 0, hh => exact hh.elim
                              | 1, hh => exact hh.elim
                              | 2, hh => exact hh.elim
                              | 3, hh => exact hh.elim
                              | 4, hh => exact hh.elim
                              | 5, hh => exact hh.elim
                              | 6, hh => exact hh.elim
                              | 7, hh => exact hh.elim
                              | 8, hh => exact hh.elim
                              | 9, hh => exact hh.elim
                              | 10, hh => exact hh.elim
                              | 11, hh => exact hh.elim
                              | 12, hh => exact hh.elim
                              | 13, hh => exact hh.elim
                              | 14, hh => exact ⟨rfl, hh⟩
                              | 15, hh => exact hh.elim
                              | m + 16, hh => exact hh.elim
                            rcases a with ⟨rfl, a⟩ <;> rcases a' with ⟨rfl, a'⟩
                            all_goals first | exact absurd rfl hne | (exact hne rfl)
                        · refine ⟨?_, ?_, ?_, ?_, ?_, ?_, ?_, ?_, ?_, ?_, ?_, ?_, ?_, ?_, ?_, ?_, trivial⟩
                          · refine Ord.owes_plain rfl fun ρ Os wo hs' hb hc' => ?_
                            have h9 : ρ (.tmp 9) = u9 := hs'.old' 9 (by kernel_rfl)
                            exact Any.ok_move (Ord.post_val rfl h9)
                          · refine Ord.owes_plain rfl fun ρ Os wo hs' hb hc' => ?_
                            have h11 : ρ (.tmp 11) = .slice (some ⟨bc, oc, none⟩) n cc := hs'.old' 11 (by kernel_rfl)
                            exact Any.ok_move (Ord.post_val rfl h11)
                          · refine Ord.owes_plain rfl fun ρ Os wo hs' hb hc' => ?_
                            have h15 : ρ (.tmp 15) = .int .i64 (b : Int) := hs'.old' 15 (by kernel_rfl)
                            exact Any.ok_move (Ord.post_val rfl h15)
                          · refine Ord.owes_plain rfl fun ρ Os wo hs' hb hc' => ?_
                            have h113 : ρ (.tmp 113) = .slice (some ⟨bc, oc, none⟩) n cc := hs'.val' 113 1 (by kernel_rfl) rfl
                            have h114 : ρ (.tmp 114) = .int .i64 (b : Int) := hs'.val' 114 2 (by kernel_rfl) rfl
                            go_simp
                            exact Ord.post_val rfl rfl
                          · refine Ord.owes_plain rfl fun ρ Os wo hs' hb hc' => ?_
                            have h115 : ρ (.tmp 115) = .pointer (some ⟨bc, oc + b * 4, none⟩) := hs'.val' 115 3 (by kernel_rfl) rfl
                            go_simp
                            exact Ord.post_val rfl rfl
                          · refine Ord.owes_plain rfl fun ρ Os wo hs' hb hc' => ?_
                            have h116 : ρ (.tmp 116) = .pointer (some ⟨bc, oc + b * 4, none⟩) := hs'.val' 116 4 (by kernel_rfl) rfl
                            have c0 := (HQE.out wo hb.undrew).1
                            go_simp
                            exact Ord.post_val rfl rfl
                          · refine Ord.owes_plain rfl fun ρ Os wo hs' hb hc' => ?_
                            have h11 : ρ (.tmp 11) = .slice (some ⟨bc, oc, none⟩) n cc := hs'.old' 11 (by kernel_rfl)
                            exact Any.ok_move (Ord.post_val rfl h11)
                          · refine Ord.owes_plain rfl fun ρ Os wo hs' hb hc' => ?_
                            have h15 : ρ (.tmp 15) = .int .i64 (b : Int) := hs'.old' 15 (by kernel_rfl)
                            exact Any.ok_move (Ord.post_val rfl h15)
                          · refine Ord.owes_plain rfl fun ρ Os wo hs' hb hc' => ?_
                            have h118 : ρ (.tmp 118) = .slice (some ⟨bc, oc, none⟩) n cc := hs'.val' 118 6 (by kernel_rfl) rfl
                            have h119 : ρ (.tmp 119) = .int .i64 (b : Int) := hs'.val' 119 7 (by kernel_rfl) rfl
                            go_simp
                            exact Ord.post_val rfl rfl
                          · refine Ord.owes_plain rfl fun ρ Os wo hs' hb hc' => ?_
                            have h120 : ρ (.tmp 120) = .pointer (some ⟨bc, oc + b * 4, none⟩) := hs'.val' 120 8 (by kernel_rfl) rfl
                            go_simp
                            exact Ord.post_val rfl rfl
                          · refine Ord.owes_plain rfl fun ρ Os wo hs' hb hc' => ?_
                            have h121 : ρ (.tmp 121) = .pointer (some ⟨bc, oc + b * 4 + 2, none⟩) := hs'.val' 121 9 (by kernel_rfl) rfl
                            have c0 := (HQE.out wo hb.undrew).2
                            go_simp
                            exact Ord.post_val rfl rfl
                          · refine Ord.owes_plain rfl fun ρ Os wo hs' hb hc' => ?_
                            have h16 : ρ (.tmp 16) = .slice al nl cl := hs'.old' 16 (by kernel_rfl)
                            exact Any.ok_move (Ord.post_val rfl h16)
                          · refine Ord.owes_plain rfl fun ρ Os wo hs' hb hc' => ?_
                            have h117 : ρ (.tmp 117) = .string ep := hs'.val' 117 5 (by kernel_rfl) rfl
                            have h122 : ρ (.tmp 122) = .int .i64 ea := hs'.val' 122 10 (by kernel_rfl) rfl
                            have h123 : ρ (.tmp 123) = .slice al nl cl := hs'.val' 123 11 (by kernel_rfl) rfl
                            go_simp
                            exact Ord.post_val rfl rfl
                          · refine Ord.owes_plain rfl fun ρ Os wo hs' hb hc' => ?_
                            have h124 : ρ (.tmp 124) = .agg #[.string ep, .int .i64 ea, .slice al nl cl] := hs'.val' 124 12 (by kernel_rfl) rfl
                            go_simp
                            exact Ord.post_one rfl
                          · refine Ord.owes_plain rfl fun ρ Os wo hs' hb hc' => ?_
                            have h112 : ρ (.tmp 112) = u9 := hs'.val' 112 0 (by kernel_rfl) rfl
                            exact Ord.ok_grownB Tryd.underlying65 HIR.out.1 HIR.out.2.1 HIR.out.2.2.1 HIR.out.2.2.2 rfl (by decide) h112 (hs'.new' 125 13 (by kernel_rfl)) HOW.out hs'.here rfl (by simp [Value.oneCell']) HLR.out.1 HLR.out.2 (Nat.le_trans HBW.out.size (show w7.heap.size ≤ wo.heap.size from hb.size)) rfl
                          · refine Ord.owes_plain rfl fun ρ Os wo hs' hb hc' => ?_
                            obtain ⟨_, hr1, hr2⟩ := hs'.new' 126 14 (by kernel_rfl)
                            exact Any.ok_assign (Ord.post_passB hr1 hr2 List.mem_cons_self rfl)
                        intro vals Os ρs w8 hk hkn hln hap hbd
                        obtain ⟨k1, -⟩ := hkn 15 (by kernel_rfl)
                        have HK8 := Lib.hid hk
                        have K1 := Lib.hid k1
                        clear hkn hln hap hbd hk k1
                        simp only [Any.putAll]
                        go_frame
                        generalize vals 15 = u8 at *
                        go_wp2_with fail
                        go_roundw
                        case rel =>
                          have hB8 := HK8.out.behind HBW.out HBW.out.size (fun q hq e => by have := (HOW.out.lt q e).1; omega)
                          refine ⟨b + 1, u8, m ++ [⟨ep, ea, .slice al nl cl, legsR R cp ++ [Lg.mk k a b]⟩], Nat.le_succ_of_le HBL.out.1, HBL.out.2, by go_num, rfl, ⟨?_, ?_⟩, ?_, ?_, hB8⟩
                          · rw [List.length_append, rcCells_snoc]; exact K1.out
                          · intro x hx
                            rcases List.mem_append.1 hx with h | h
                            · exact ownsRow_keep (HVO.out x h) HK8.out (fun q hq e => rows_ne (HVO.out x h) HOW.out (by decide) q hq e)
                            · obtain rfl := List.mem_singleton.1 h
                              exact ownsRow_keep HLN.out HK8.out (fun q hq e => rows_ne HLN.out HOW.out (by decide) q hq e)
                          · rw [HTN.out.1]; exact HTN.out.2
                          · rw [List.length_append]; have := HCT.out; simp at this ⊢; omega
                        case measure => have := HBL.out; (simp [intOf]) <;> omega
                      | some q =>
                        obtain ⟨hql, hqp⟩ := rIdx_port hri
                        obtain ⟨g, cap, cur, rfl, -, hgb⟩ := own_pos HOWR.out (by omega)
                        have HGB := Lib.hid hgb
                        clear hgb
                        have HRI : Hid (idxI (rIdx m ep) = (q : Int)) := Lib.hid (by rw [hri]; rfl)
                        have HSE := Lib.hid (fun v => rfOf_set (y := ⟨ep, ea, v, legsR R cp ++ [Lg.mk k a b]⟩) hri)
                        have HQL := Lib.hid hql
                        obtain ⟨dq, hdq⟩ : ∃ dq, m[q].day = dq := ⟨_, rfl⟩
                        have HDQ := Lib.hid hdq
                        obtain ⟨lq, hlq⟩ : ∃ l, m[q].legs = l := ⟨_, rfl⟩
                        have HRF : Hid (rfOf m ep = some (dq, lq)) := Lib.hid (by rw [← hdq, ← hlq]; exact rfOf_some hri hql)
                        clear hlq
                        have hqi : (q : Int) < (m.length : Int) := by omega
                        have t9 : decide ((q : Int) < 0) = false := decide_eq_false (by omega)
                        by_cases hlt : ea < dq
                        · have t10 : decide (ea < dq) = true := decide_eq_true hlt
                          have HTN : Hid ((∀ v, rfOf (m.set q ⟨ep, ea, v, legsR R cp ++ [Lg.mk k a b]⟩) = stepO V R fr (rfOf m) ⟨k, a, b⟩) ∧ (restT k a (b + 1) n ++ (restC R fr ch k n (cs.drop (a + 1)) (a + 1) ++ restV R fr ch (V.drop (k + 1)) (k + 1))).foldl (stepO V R fr) (stepO V R fr (rfOf m) ⟨k, a, b⟩) = T) := Lib.hid ⟨fun v => by
                            rw [HSE.out v]
                            unfold stepO
                            rw [HARC.out]
                            simp only
                            rw [if_neg hef, HRF.out]
                            simp only
                            rw [if_pos hlt, HFR.out], HTT.out⟩
                          clear hef hri hlt hdq hqp
                          go_wp2_with (first
                            | ((refine Any.wpl_append (size := 3) (bytes := 24) (n := 0) (m := nz) (base := wr.heap.size) (vx := .slice (some ⟨wr.heap.size, 0, none⟩) 0 0) (vy := .slice az nz cz) ?_ ?_ ?_ Tryd.underlying26 HIL.out.1 HIL.out.2.1 HIL.out.2.2.1 HIL.out.2.2.2 ?_ (by decide) (own_empty (Nat.le_refl _)) HSZ.out (lgCells_one _) HLL.out.1 HLL.out.2.1 (by simp) ?_); rfl; rfl; rfl; rfl; intro v4 w4 hown4 hgrow4 hwho4
                               rw [List.nil_append, Nat.zero_add] at hown4
                               have HO4 := Lib.hid hown4
                               have HB4 := Lib.hid ((one_below wr (.cells #[] 37)).grown hgrow4 (by simp) (fun q hq => by have : wr.heap.size = q := Option.some.inj hq; omega))
                               have HL4 : Hid (nz + 1 ≤ maxLen ∧ (nz + 1) * 24 ≤ 140737488355328 ∧ wr.heap.size ≤ w4.heap.size) := Lib.hid ⟨HLL.out.2.2.1, HLL.out.2.2.2, HB4.out.size⟩
                               obtain ⟨a4, c4, rfl⟩ := Ord.row_slice hown4
                               clear hown4 hgrow4 hwho4)
                            | (((with_reducible refine Any.wpl_push ?_ ?_ ?_ Tryd.underlying26 HIL.out.1 HIL.out.2.1 HIL.out.2.2.1 HIL.out.2.2.2 ?_ (by decide) ?_ (HLO.out) (HO4.out) HL4.out.1 HL4.out.2.1 HL4.out.2.2 ?_); rfl; rfl; rfl; rfl; rfl; intro v5 w5 hown5 hgrow5 hwho5)
                               have HO5 := Lib.hid hown5
                               have HB5 := Lib.hid (HB4.out.grown hgrow5 HB4.out.size (fun q hq => by have := (HO4.out.lt q hq).1; omega))
                               have HBW := Lib.hid (HBR.out.trans (HB5.out.mono HBR.out.size))
                               have HOW := Lib.hid (ownsRow_below HOWR.out HB5.out)
                               have HFO := Lib.hid (by rw [← HRI.out]; exact find_any m (.slice (some ⟨g, 0, none⟩) m.length cap) ep w5 (own_rcs HOW.out rfl) : Calls Tryd.prog 35 #[(.slice (some ⟨g, 0, none⟩) m.length cap), .string ep] w5 (Ret w5 (.int .i64 (q : Int))))
                               obtain ⟨al, nl, cl, rfl⟩ := own_slice hown5
                               clear hown5 hgrow5 hwho5
                               have f0 := (HPE.out w5 HBW.out).1)
                            | ((with_reducible refine (HFO.out).mono ?_); rintro e w7 ⟨rfl, hb7⟩
                               have HB57 := Lib.hid hb7
                               (have HLN : Hid (w7.ownsRow 0 37 3 (.slice al nl cl) (legsR R cp ++ [Lg.mk k a b]).length (lgCells (legsR R cp ++ [Lg.mk k a b]))) := Lib.hid (by
                                 have h := ownsRow_base (ownsRow_below HO5.out hb7) (Nat.zero_le _)
                                 rw [HLG.out, List.length_append, lgCells_append, ← HNZ.out]
                                 exact h))
                               have HVO := Lib.hid (fun x hx => ownsRow_below (HVOR.out x hx) (HB5.out.trans (hb7.mono HB5.out.size)))
                               have HOW := Lib.hid (ownsRow_below HOW.out hb7)
                               have HBW := Lib.hid (HBW.out.trans (hb7.mono HBW.out.size)); clear hb7)
                            | fail)
                          have HSR := Lib.hid (own_rc_set HOW.out HQL.out ⟨ep, ea, .slice al nl cl, legsR R cp ++ [Lg.mk k a b]⟩)
                          have z9 : w7.cell? ⟨g, q * 3 + 1, none⟩ = some (.int .i64 dq) := HSR.out.2.2.trans (congrArg (fun d => some (Value.int .i64 d)) HDQ.out)
                          have f2 := (HPE.out _ HBW.out).2.1
                          go_quiet (fail)
                          obtain ⟨w8, hw8⟩ : ∃ x, x = w7.drewN nq := ⟨_, rfl⟩
                          have HB78 : Hid (Below w7.heap.size w7 w8) := Lib.hid (hw8 ▸ below_drewN (Below.refl _ _) nq)
                          rw [← hw8]
                          clear hw8 z9 f2 f0 z2 HSR
                          have HB8 := Lib.hid (HBW.out.trans (HB78.out.mono HBW.out.size))
                          have HOW8 := Lib.hid (ownsRow_below HOW.out HB78.out)
                          have HVO8 := Lib.hid (fun x hx => ownsRow_below (HVO.out x hx) HB78.out)
                          have HLN8 := Lib.hid (ownsRow_below HLN.out HB78.out)
                          have f0 := (HPE.out _ HB8.out).1
                          have f2 := (HPE.out _ HB8.out).2.1
                          go_wp2_with fail
                          go_still_tail 15, (by kernel_rfl)
                          change wpList _ _ _ _ _ w8.drew
                          obtain ⟨w9, hw9⟩ : ∃ x, x = w8.drew := ⟨_, rfl⟩
                          have HB89 : Hid (Below w8.heap.size w8 w9) := Lib.hid (hw9 ▸ (Below.refl w8.heap.size w8).drew)
                          rw [← hw9]
                          clear hw9 f0 f2
                          have HB9 := Lib.hid (HB8.out.trans (HB89.out.mono HB8.out.size))
                          have HOW9 := Lib.hid (ownsRow_below HOW8.out HB89.out)
                          have HVO9 := Lib.hid (fun x hx => ownsRow_below (HVO8.out x hx) HB89.out)
                          have HLN9 := Lib.hid (ownsRow_below HLN8.out HB89.out)
                          have HSR := Lib.hid (own_rc_set HOW9.out HQL.out ⟨ep, ea, .slice al nl cl, legsR R cp ++ [Lg.mk k a b]⟩)
                          have f0 := (HPE.out _ HB9.out).1
                          have f2 := (HPE.out _ HB9.out).2.1
                          go_wp2_with (first
                            | (refine wpList_store_mid (P := Tryd.prog) rfl 64 (.tmp 152) (.tmp 151) rfl g (q * 3) #[.string ep, .int .i64 ea, .slice al nl cl] rfl rfl HSR.out.1 (by kernel_rfl) (by simp [Value.oneCell']) ?_)
                            | fail)
                          go_roundw
                          case rel =>
                            refine ⟨b + 1, _, m.set q ⟨ep, ea, .slice al nl cl, legsR R cp ++ [Lg.mk k a b]⟩, Nat.le_succ_of_le HBL.out.1, HBL.out.2, by go_num, rfl, ⟨?_, ?_⟩, ?_, ?_, HB9.out.grown (cells3_grown w9 g (q * 3) (.string ep) (.int .i64 ea) (.slice al nl cl)) HB9.out.size (fun x hx => by obtain rfl := Option.some.inj hx; exact HGB.out)⟩
                            · rw [List.length_set]; exact HSR.out.2.1
                            · intro x hx
                              rcases List.mem_or_eq_of_mem_set hx with h | h
                              · exact ownsRow_keep (HVO9.out x h) (Keep.of_grown (cells3_grown w9 g (q * 3) (.string ep) (.int .i64 ea) (.slice al nl cl))) (fun q hq e => rows_ne (HVO9.out x h) HOW9.out (by decide) q hq e)
                              · subst h
                                exact ownsRow_keep HLN9.out (Keep.of_grown (cells3_grown w9 g (q * 3) (.string ep) (.int .i64 ea) (.slice al nl cl))) (fun q hq e => rows_ne HLN9.out HOW9.out (by decide) q hq e)
                            · rw [HTN.out.1]; exact HTN.out.2
                            · rw [List.length_set]; have := HCT.out; omega
                          case measure => have := HBL.out; (simp [intOf]) <;> omega
                        · have t10 : decide (ea < dq) = false := decide_eq_false hlt
                          have HST : Hid (stepO V R fr (rfOf m) ⟨k, a, b⟩ = rfOf m) := Lib.hid (by
                            unfold stepO
                            rw [HARC.out]
                            simp only
                            rw [if_neg hef, HRF.out]
                            simp only
                            rw [if_neg hlt])
                          clear hef hri hlt hdq hqp
                          go_wp2_with (first
                            | ((refine Any.wpl_append (size := 3) (bytes := 24) (n := 0) (m := nz) (base := wr.heap.size) (vx := .slice (some ⟨wr.heap.size, 0, none⟩) 0 0) (vy := .slice az nz cz) ?_ ?_ ?_ Tryd.underlying26 HIL.out.1 HIL.out.2.1 HIL.out.2.2.1 HIL.out.2.2.2 ?_ (by decide) (own_empty (Nat.le_refl _)) HSZ.out (lgCells_one _) HLL.out.1 HLL.out.2.1 (by simp) ?_); rfl; rfl; rfl; rfl; intro v4 w4 hown4 hgrow4 hwho4
                               rw [List.nil_append, Nat.zero_add] at hown4
                               have HO4 := Lib.hid hown4
                               have HB4 := Lib.hid ((one_below wr (.cells #[] 37)).grown hgrow4 (by simp) (fun q hq => by have : wr.heap.size = q := Option.some.inj hq; omega))
                               have HL4 : Hid (nz + 1 ≤ maxLen ∧ (nz + 1) * 24 ≤ 140737488355328 ∧ wr.heap.size ≤ w4.heap.size) := Lib.hid ⟨HLL.out.2.2.1, HLL.out.2.2.2, HB4.out.size⟩
                               obtain ⟨a4, c4, rfl⟩ := Ord.row_slice hown4
                               clear hown4 hgrow4 hwho4)
                            | (((with_reducible refine Any.wpl_push ?_ ?_ ?_ Tryd.underlying26 HIL.out.1 HIL.out.2.1 HIL.out.2.2.1 HIL.out.2.2.2 ?_ (by decide) ?_ (HLO.out) (HO4.out) HL4.out.1 HL4.out.2.1 HL4.out.2.2 ?_); rfl; rfl; rfl; rfl; rfl; intro v5 w5 hown5 hgrow5 hwho5)
                               have HO5 := Lib.hid hown5
                               have HB5 := Lib.hid (HB4.out.grown hgrow5 HB4.out.size (fun q hq => by have := (HO4.out.lt q hq).1; omega))
                               have HBW := Lib.hid (HBR.out.trans (HB5.out.mono HBR.out.size))
                               have HOW := Lib.hid (ownsRow_below HOWR.out HB5.out)
                               have HFO := Lib.hid (by rw [← HRI.out]; exact find_any m (.slice (some ⟨g, 0, none⟩) m.length cap) ep w5 (own_rcs HOW.out rfl) : Calls Tryd.prog 35 #[(.slice (some ⟨g, 0, none⟩) m.length cap), .string ep] w5 (Ret w5 (.int .i64 (q : Int))))
                               obtain ⟨al, nl, cl, rfl⟩ := own_slice hown5
                               clear hown5 hgrow5 hwho5
                               have f0 := (HPE.out w5 HBW.out).1)
                            | ((with_reducible refine (HFO.out).mono ?_); rintro e w7 ⟨rfl, hb7⟩
                               have HB57 := Lib.hid hb7
                               (have HLN : Hid (w7.ownsRow 0 37 3 (.slice al nl cl) (legsR R cp ++ [Lg.mk k a b]).length (lgCells (legsR R cp ++ [Lg.mk k a b]))) := Lib.hid (by
                                 have h := ownsRow_base (ownsRow_below HO5.out hb7) (Nat.zero_le _)
                                 rw [HLG.out, List.length_append, lgCells_append, ← HNZ.out]
                                 exact h))
                               have HVO := Lib.hid (fun x hx => ownsRow_below (HVOR.out x hx) (HB5.out.trans (hb7.mono HB5.out.size)))
                               have HOW := Lib.hid (ownsRow_below HOW.out hb7)
                               have HBW := Lib.hid (HBW.out.trans (hb7.mono HBW.out.size)); clear hb7)
                            | fail)
                          have HSR := Lib.hid (own_rc_set HOW.out HQL.out ⟨ep, ea, .slice al nl cl, legsR R cp ++ [Lg.mk k a b]⟩)
                          have z9 : w7.cell? ⟨g, q * 3 + 1, none⟩ = some (.int .i64 dq) := HSR.out.2.2.trans (congrArg (fun d => some (Value.int .i64 d)) HDQ.out)
                          have f2 := (HPE.out _ HBW.out).2.1
                          go_quiet (fail)
                          obtain ⟨w8, hw8⟩ : ∃ x, x = w7.drewN nq := ⟨_, rfl⟩
                          have HB78 : Hid (Below w7.heap.size w7 w8) := Lib.hid (hw8 ▸ below_drewN (Below.refl _ _) nq)
                          rw [← hw8]
                          clear hw8 z9 f2 f0 z2 HSR
                          have HB8 := Lib.hid (HBW.out.trans (HB78.out.mono HBW.out.size))
                          have HOW8 := Lib.hid (ownsRow_below HOW.out HB78.out)
                          have HVO8 := Lib.hid (fun x hx => ownsRow_below (HVO.out x hx) HB78.out)
                          have HLN8 := Lib.hid (ownsRow_below HLN.out HB78.out)
                          have f0 := (HPE.out _ HB8.out).1
                          have f2 := (HPE.out _ HB8.out).2.1
                          go_wp2_with fail
                          go_roundw
                          case rel => exact ⟨b + 1, _, m, Nat.le_succ_of_le HBL.out.1, HBL.out.2, by go_num, rfl, ⟨HOW8.out, HVO8.out⟩, by have := HTT.out; rw [HST.out] at this; exact this, by have := HCT.out; omega, HB8.out⟩
                          case measure => have := HBL.out; (simp [intOf]) <;> omega
                    · have HTE : Hid (restT k a b n ++ (restC R fr ch k n (cs.drop (a + 1)) (a + 1) ++ restV R fr ch (V.drop (k + 1)) (k + 1)) = (restC R fr ch k n (cs.drop (a + 1)) (a + 1) ++ restV R fr ch (V.drop (k + 1)) (k + 1))) := Lib.hid (by rw [restT_end _ _ _ _ (by omega)]; rfl)
                      have HTT := Lib.hid htt
                      have HCT := Lib.hid hct
                      have hbi : ¬ ((b : Nat) : Int) < (n : Int) := by omega
                      clear hok htt hct hbel hlb hab hbn
                      go_wp2_with fail
                      go_roundw
                      case rel => exact ⟨a + 1, _, m, HAL.out, by go_num, rfl, ⟨HOWR.out, HVOR.out⟩, by rw [← HTE.out]; exact HTT.out, by rw [← HTE.out]; exact HCT.out, HBR.out⟩
                      case measure => have := HAL.out; (simp [intOf]) <;> omega
                · have tq : decide (cu < dz) = true := decide_eq_true (by omega)
                  rw [decide_eq_false hrq, if_neg (by decide), List.nil_append] at htt hct
                  have HTA := Lib.hid htt
                  have HCA := Lib.hid hct
                  clear htt hct hrq
                  go_wp2_with (first
                    | ((with_reducible refine (HFD.out _ HBR.out).mono ?_); rintro e w3 ⟨rfl, hb3⟩; have HB2R := Lib.hid (HBR.out.trans (hb3.mono HBR.out.size)); have HOK2 := Lib.hid (HOK.out.below hb3); have z1 := HOD.out w3 HB2R.out; have z2 := HOZ.out w3 HB2R.out; have g1 := (HPA.out w3 HB2R.out).2; clear hb3)
                    | fail)
                  go_roundw
                  case rel => exact ⟨a + 1, _, m, HAL.out, by go_num, rfl, HOK2.out, HTA.out, HCA.out, HB2R.out⟩
                  case measure => have := HAL.out; (simp [intOf]) <;> omega
              · have hw : waitC fr ch cp = ch := by unfold waitC; exact if_neg hcf
                rw [hw] at htt hct
                have ty : decide ((0 : Int) < (nz : Int)) = true := decide_eq_true (by omega)
                have ty' : decide (0 < nz) = true := decide_eq_true (by omega)
                obtain ⟨hc0, hc1⟩ := HCH.out
                clear hcf hn0 hw
                by_cases hrq : dz + ch ≤ cu
                · have tq : decide (cu < dz + ch) = false := decide_eq_false (by omega)
                  rw [decide_eq_true hrq, if_pos rfl] at htt hct
                  have HTR := Lib.hid (And.intro htt hct)
                  clear htt hct hrq
                  go_wp2_with (first
                    | ((with_reducible refine (HFD.out _ HBR.out).mono ?_); rintro e w3 ⟨rfl, hb3⟩; have HB2R := Lib.hid (HBR.out.trans (hb3.mono HBR.out.size)); have HOK2 := Lib.hid (HOK.out.below hb3); have z1 := HOD.out w3 HB2R.out; have z2 := HOZ.out w3 HB2R.out; have g1 := (HPA.out w3 HB2R.out).2; clear hb3)
                    | fail)
                  clear z1 z2 g0 g1 tq ty ty' tj
                  go_loopw [9, 15, 16, 17] (fun o bv _ _ wr => ∃ (b : Nat) (v : Value) (m : List Rc), a + 1 ≤ b ∧ b ≤ n ∧ bv = .int .i64 b ∧ o = v ∧ OutOk wr w.heap.size v m ∧ (restT k a b n ++ (restC R fr ch k n (cs.drop (a + 1)) (a + 1) ++ restV R fr ch (V.drop (k + 1)) (k + 1))).foldl (stepO V R fr) (rfOf m) = T ∧ m.length + (restT k a b n ++ (restC R fr ch k n (cs.drop (a + 1)) (a + 1) ++ restV R fr ch (V.drop (k + 1)) (k + 1))).length ≤ N ∧ Below w.heap.size w wr) (fun _ bv _ _ _ => n - (intOf bv).toNat)
                  case atStart => exact ⟨a + 1, _, _, Nat.le_refl _, HAL.out, by go_num, rfl, HOK2.out, HTR.out.1, HTR.out.2, HB2R.out⟩
                  case round =>
                    obtain ⟨b, uo, m, hab, hbn, rfl, rfl, hok, htt, hct, hbel⟩ := hrel
                    have HOWR := Lib.hid hok.1
                    have HVOR := Lib.hid hok.2
                    have HBR := Lib.hid hbel
                    by_cases hlb : b < n
                    · rw [restT_next k a b n hlb, List.cons_append] at htt hct
                      rw [List.foldl_cons] at htt
                      rw [List.length_cons] at hct
                      have HTT := Lib.hid htt
                      have HCT := Lib.hid hct
                      have HBL := Lib.hid (And.intro hab hlb)
                      have HLB := Lib.hid hlb
                      have hbi : ((b : Nat) : Int) < (n : Int) := by omega
                      have hbi0 : (b : Int) ≤ 1000000 := by have := HN64.out; omega
                      have hlb' : b < cs.length := by rw [← HCN.out]; exact hlb
                      have HARC : Hid (arrC V ⟨k, a, b⟩ = some cs[b]) := Lib.hid (by rw [arrC, HVK.out, Option.bind_some]; exact List.getElem?_eq_getElem hlb')
                      have HLOK : Hid (LgOk V ⟨k, a, b⟩) := Lib.hid ⟨_, HVK.out, by show a < b; omega, hlb'⟩
                      obtain ⟨bc', oc', he', hbcl, hpe⟩ := cl_at HCS.out hlb'
                      simp only [Option.some.injEq, Addr.mk.injEq, and_true] at he'
                      obtain ⟨rfl, rfl⟩ := he'
                      have HPE := Lib.hid (fun W (hW : Below w.heap.size w W) => And.intro (hpe.below hbcl hW).1 (And.intro (hpe.below hbcl hW).2.2.1 True.intro))
                      have f0 := (HPE.out wr hbel).1
                      have HFR := Lib.hid (reachL_eq (R := R) HARC.out (HFRC.out b))
                      clear hok htt hct hbel hpe hbcl hab hbn
                      generalize cs[b] = e at *
                      clear hlb hlb'
                      obtain ⟨ep, eu, ea, ed⟩ := e
                      simp only at HPE f0 HFR
                      by_cases hef : ep = fr
                      · have t8 : (ep.toList == fr.toList) = true := by rw [str_beq, decide_eq_true hef]
                        have HST : Hid (stepO V R fr (rfOf m) ⟨k, a, b⟩ = rfOf m) := Lib.hid (by unfold stepO; rw [HARC.out]; exact if_pos hef)
                        clear hef
                        go_wp2_with fail
                        go_roundw
                        case rel => exact ⟨b + 1, _, m, Nat.le_succ_of_le HBL.out.1, HBL.out.2, by go_num, rfl, ⟨HOWR.out, HVOR.out⟩, by have := HTT.out; rw [HST.out] at this; exact this, by have := HCT.out; omega, HBR.out⟩
                        case measure => have := HBL.out; (simp [intOf]) <;> omega
                      have t8 : (ep.toList == fr.toList) = false := by rw [str_beq, decide_eq_false hef]
                      have z2 := HOZ.out wr HBR.out
                      have HLO : Hid (∀ u ∈ (#[.int .i64 (k : Int), .int .i64 (a : Int), .int .i64 (b : Int)] : Array Value).toList, u.oneCell' = true) := Lib.hid (lg_one ⟨k, a, b⟩)
                      have lbo : bo < wr.heap.size := Nat.lt_of_lt_of_le HBO.out HBR.out.size
                      have HSZ : Hid (Src (wr.alloc (.cells #[] 37)) 3 (.slice az nz cz) nz (lgCells lz)) := Lib.hid (HSZ0.out _ (HBR.out.alloc HBR.out.size _))
                      have HLR : Hid (m.length + 1 ≤ maxLen ∧ (m.length + 1) * 48 ≤ 140737488355328) := Lib.hid (by have := HCT.out; have := HNN.out; simp only [maxLen]; omega)
                      cases hri : rIdx m ep with
                      | none =>
                        have HRI : Hid (idxI (rIdx m ep) = m1) := Lib.hid (by rw [hri]; exact HM1.out)
                        have HTN : Hid ((∀ v, rfOf (m ++ [⟨ep, ea, v, legsR R cp ++ [Lg.mk k a b]⟩]) = stepO V R fr (rfOf m) ⟨k, a, b⟩) ∧ (restT k a (b + 1) n ++ (restC R fr ch k n (cs.drop (a + 1)) (a + 1) ++ restV R fr ch (V.drop (k + 1)) (k + 1))).foldl (stepO V R fr) (stepO V R fr (rfOf m) ⟨k, a, b⟩) = T) := Lib.hid ⟨fun v => by
                          rw [rfOf_append (y := ⟨ep, ea, v, legsR R cp ++ [Lg.mk k a b]⟩) hri]
                          unfold stepO
                          rw [HARC.out]
                          simp only
                          rw [if_neg hef, rfOf_none hri, HFR.out], HTT.out⟩
                        clear hef hri
                        go_wp2_with (first
                          | ((refine Any.wpl_append (size := 3) (bytes := 24) (n := 0) (m := nz) (base := wr.heap.size) (vx := .slice (some ⟨wr.heap.size, 0, none⟩) 0 0) (vy := .slice az nz cz) ?_ ?_ ?_ Tryd.underlying26 HIL.out.1 HIL.out.2.1 HIL.out.2.2.1 HIL.out.2.2.2 ?_ (by decide) (own_empty (Nat.le_refl _)) HSZ.out (lgCells_one _) HLL.out.1 HLL.out.2.1 (by simp) ?_); rfl; rfl; rfl; rfl; intro v4 w4 hown4 hgrow4 hwho4
                             rw [List.nil_append, Nat.zero_add] at hown4
                             have HO4 := Lib.hid hown4
                             have HB4 := Lib.hid ((one_below wr (.cells #[] 37)).grown hgrow4 (by simp) (fun q hq => by have : wr.heap.size = q := Option.some.inj hq; omega))
                             have HL4 : Hid (nz + 1 ≤ maxLen ∧ (nz + 1) * 24 ≤ 140737488355328 ∧ wr.heap.size ≤ w4.heap.size) := Lib.hid ⟨HLL.out.2.2.1, HLL.out.2.2.2, HB4.out.size⟩
                             obtain ⟨a4, c4, rfl⟩ := Ord.row_slice hown4
                             clear hown4 hgrow4 hwho4)
                          | (((with_reducible refine Any.wpl_push ?_ ?_ ?_ Tryd.underlying26 HIL.out.1 HIL.out.2.1 HIL.out.2.2.1 HIL.out.2.2.2 ?_ (by decide) ?_ (HLO.out) (HO4.out) HL4.out.1 HL4.out.2.1 HL4.out.2.2 ?_); rfl; rfl; rfl; rfl; rfl; intro v5 w5 hown5 hgrow5 hwho5)
                             have HO5 := Lib.hid hown5
                             have HB5 := Lib.hid (HB4.out.grown hgrow5 HB4.out.size (fun q hq => by have := (HO4.out.lt q hq).1; omega))
                             have HBW := Lib.hid (HBR.out.trans (HB5.out.mono HBR.out.size))
                             have HOW := Lib.hid (ownsRow_below HOWR.out HB5.out)
                             have HFO := Lib.hid (by rw [← HRI.out]; exact find_any m u9 ep w5 (own_rcs HOW.out rfl) : Calls Tryd.prog 35 #[u9, .string ep] w5 (Ret w5 (.int .i64 m1)))
                             obtain ⟨al, nl, cl, rfl⟩ := own_slice hown5
                             clear hown5 hgrow5 hwho5
                             have f0 := (HPE.out w5 HBW.out).1)
                          | ((with_reducible refine (HFO.out).mono ?_); rintro e w7 ⟨rfl, hb7⟩
                             have HB57 := Lib.hid hb7
                             (have HLN : Hid (w7.ownsRow 0 37 3 (.slice al nl cl) (legsR R cp ++ [Lg.mk k a b]).length (lgCells (legsR R cp ++ [Lg.mk k a b]))) := Lib.hid (by
                               have h := ownsRow_base (ownsRow_below HO5.out hb7) (Nat.zero_le _)
                               rw [HLG.out, List.length_append, lgCells_append, ← HNZ.out]
                               exact h))
                             have HVO := Lib.hid (fun x hx => ownsRow_below (HVOR.out x hx) (HB5.out.trans (hb7.mono HB5.out.size)))
                             have HOW := Lib.hid (ownsRow_below HOW.out hb7)
                             have HBW := Lib.hid (HBW.out.trans (hb7.mono HBW.out.size)); clear hb7)
                          | fail)
                        have HQE : Hid (∀ W, Keep (fun b => u9.ownBlock = some b) w7 W → W.cell? ⟨bc, oc + b * 4, none⟩ = some (.string ep) ∧ W.cell? ⟨bc, oc + b * 4 + 2, none⟩ = some (.int .i64 ea)) := Lib.hid (fun W hW => by
                          have h := HPE.out W (hW.behind HBW.out HBW.out.size (fun q hq e => by have := (HOW.out.lt q e).1; omega))
                          exact ⟨h.1, h.2.1⟩)
                        go_wp2_with fail
                        refine Ord.region_lit (fun
                          | 0 => Ord.val (u9)
                          | 1 => Ord.val (.slice (some ⟨bc, oc, none⟩) n cc)
                          | 2 => Ord.val (.int .i64 (b : Int))
                          | 3 => Ord.val (.pointer (some ⟨bc, oc + b * 4, none⟩))
                          | 4 => Ord.val (.pointer (some ⟨bc, oc + b * 4, none⟩))
                          | 5 => Ord.val (.string ep)
                          | 6 => Ord.val (.slice (some ⟨bc, oc, none⟩) n cc)
                          | 7 => Ord.val (.int .i64 (b : Int))
                          | 8 => Ord.val (.pointer (some ⟨bc, oc + b * 4, none⟩))
                          | 9 => Ord.val (.pointer (some ⟨bc, oc + b * 4 + 2, none⟩))
                          | 10 => Ord.val (.int .i64 ea)
                          | 11 => Ord.val (.slice al nl cl)
                          | 12 => Ord.val (.agg #[.string ep, .int .i64 ea, .slice al nl cl])
                          | 13 => Ord.one 64 #[.string ep, .int .i64 ea, .slice al nl cl]
                          | 14 => Ord.grownB w.heap.size 64 3 (m.length + 1) (rcCells m ++ (#[.string ep, .int .i64 ea, .slice al nl cl] : Array Value).toList) 13 u9
                          | 15 => Ord.own w.heap.size 64 3 (m.length + 1) (rcCells m ++ (#[.string ep, .int .i64 ea, .slice al nl cl] : Array Value).toList) [14]
                          | _ => Ord.idle) (fun b => u9.ownBlock = some b) (by kernel_rfl) (by kernel_rfl) (by kernel_rfl) ?_ ?_ ?_ ?_
                        · intro i _
                          match i with
                          | 0 => exact Ord.lasts_val _
                          | 1 => exact Ord.lasts_val _
                          | 2 => exact Ord.lasts_val _
                          | 3 => exact Ord.lasts_val _
                          | 4 => exact Ord.lasts_val _
                          | 5 => exact Ord.lasts_val _
                          | 6 => exact Ord.lasts_val _
                          | 7 => exact Ord.lasts_val _
                          | 8 => exact Ord.lasts_val _
                          | 9 => exact Ord.lasts_val _
                          | 10 => exact Ord.lasts_val _
                          | 11 => exact Ord.lasts_val _
                          | 12 => exact Ord.lasts_val _
                          | 13 => exact Ord.lasts_one _ _
                          | 14 => exact Ord.lasts_grownB _ _ _ _ _ _ _
                          | 15 => exact Ord.lasts_own _ _ _ _ _ _
                          | n + 16 => exact Ord.lasts_idle
                        · refine ⟨fun k b _ hh => ?_, fun k b _ hh => ?_, fun k k' b _ _ hne h1 h2 => ?_⟩
                          · match k, hh with
                            | 0, hh => exact hh.elim
                            | 1, hh => exact hh.elim
                            | 2, hh => exact hh.elim
                            | 3, hh => exact hh.elim
                            | 4, hh => exact hh.elim
                            | 5, hh => exact hh.elim
                            | 6, hh => exact hh.elim
                            | 7, hh => exact hh.elim
                            | 8, hh => exact hh.elim
                            | 9, hh => exact hh.elim
                            | 10, hh => exact hh.elim
                            | 11, hh => exact hh.elim
                            | 12, hh => exact hh.elim
                            | 13, hh => exact hh.elim
                            | 14, hh => exact hh
                            | 15, hh => exact hh.elim
                            | m + 16, hh => exact hh.elim
                          · match k, hh with
                            | 0, hh => exact hh.elim
                            | 1, hh => exact hh.elim
                            | 2, hh => exact hh.elim
                            | 3, hh => exact hh.elim
                            | 4, hh => exact hh.elim
                            | 5, hh => exact hh.elim
                            | 6, hh => exact hh.elim
                            | 7, hh => exact hh.elim
                            | 8, hh => exact hh.elim
                            | 9, hh => exact hh.elim
                            | 10, hh => exact hh.elim
                            | 11, hh => exact hh.elim
                            | 12, hh => exact hh.elim
                            | 13, hh => exact hh.elim
                            | 14, hh => exact (HOW.out.lt _ hh).2
                            | 15, hh => exact hh.elim
                            | m + 16, hh => exact hh.elim
                          · have a : (k = 14 ∧ (fun b => u9.ownBlock = some b) b) := by
                              match k, h1 with
                              | 0, hh => exact hh.elim
                              | 1, hh => exact hh.elim
                              | 2, hh => exact hh.elim
                              | 3, hh => exact hh.elim
                              | 4, hh => exact hh.elim
                              | 5, hh => exact hh.elim
                              | 6, hh => exact hh.elim
                              | 7, hh => exact hh.elim
                              | 8, hh => exact hh.elim
                              | 9, hh => exact hh.elim
                              | 10, hh => exact hh.elim
                              | 11, hh => exact hh.elim
                              | 12, hh => exact hh.elim
                              | 13, hh => exact hh.elim
                              | 14, hh => exact ⟨rfl, hh⟩
                              | 15, hh => exact hh.elim
                              | m + 16, hh => exact hh.elim
                            have a' : (k' = 14 ∧ (fun b => u9.ownBlock = some b) b) := by
                              match k', h2 with
                              | 0, hh => exact hh.elim
                              | 1, hh => exact hh.elim
                              | 2, hh => exact hh.elim
                              | 3, hh => exact hh.elim
                              | 4, hh => exact hh.elim
                              | 5, hh => exact hh.elim
                              | 6, hh => exact hh.elim
                              | 7, hh => exact hh.elim
                              | 8, hh => exact hh.elim
                              | 9, hh => exact hh.elim
                              | 10, hh => exact hh.elim
                              | 11, hh => exact hh.elim
                              | 12, hh => exact hh.elim
                              | 13, hh => exact hh.elim
                              | 14, hh => exact ⟨rfl, hh⟩
                              | 15, hh => exact hh.elim
                              | m + 16, hh => exact hh.elim
                            rcases a with ⟨rfl, a⟩ <;> rcases a' with ⟨rfl, a'⟩
                            all_goals first | exact absurd rfl hne | (exact hne rfl)
                        · refine ⟨?_, ?_, ?_, ?_, ?_, ?_, ?_, ?_, ?_, ?_, ?_, ?_, ?_, ?_, ?_, ?_, trivial⟩
                          · refine Ord.owes_plain rfl fun ρ Os wo hs' hb hc' => ?_
                            have h9 : ρ (.tmp 9) = u9 := hs'.old' 9 (by kernel_rfl)
                            exact Any.ok_move (Ord.post_val rfl h9)
                          · refine Ord.owes_plain rfl fun ρ Os wo hs' hb hc' => ?_
                            have h11 : ρ (.tmp 11) = .slice (some ⟨bc, oc, none⟩) n cc := hs'.old' 11 (by kernel_rfl)
                            exact Any.ok_move (Ord.post_val rfl h11)
                          · refine Ord.owes_plain rfl fun ρ Os wo hs' hb hc' => ?_
                            have h15 : ρ (.tmp 15) = .int .i64 (b : Int) := hs'.old' 15 (by kernel_rfl)
                            exact Any.ok_move (Ord.post_val rfl h15)
                          · refine Ord.owes_plain rfl fun ρ Os wo hs' hb hc' => ?_
                            have h113 : ρ (.tmp 113) = .slice (some ⟨bc, oc, none⟩) n cc := hs'.val' 113 1 (by kernel_rfl) rfl
                            have h114 : ρ (.tmp 114) = .int .i64 (b : Int) := hs'.val' 114 2 (by kernel_rfl) rfl
                            go_simp
                            exact Ord.post_val rfl rfl
                          · refine Ord.owes_plain rfl fun ρ Os wo hs' hb hc' => ?_
                            have h115 : ρ (.tmp 115) = .pointer (some ⟨bc, oc + b * 4, none⟩) := hs'.val' 115 3 (by kernel_rfl) rfl
                            go_simp
                            exact Ord.post_val rfl rfl
                          · refine Ord.owes_plain rfl fun ρ Os wo hs' hb hc' => ?_
                            have h116 : ρ (.tmp 116) = .pointer (some ⟨bc, oc + b * 4, none⟩) := hs'.val' 116 4 (by kernel_rfl) rfl
                            have c0 := (HQE.out wo hb.undrew).1
                            go_simp
                            exact Ord.post_val rfl rfl
                          · refine Ord.owes_plain rfl fun ρ Os wo hs' hb hc' => ?_
                            have h11 : ρ (.tmp 11) = .slice (some ⟨bc, oc, none⟩) n cc := hs'.old' 11 (by kernel_rfl)
                            exact Any.ok_move (Ord.post_val rfl h11)
                          · refine Ord.owes_plain rfl fun ρ Os wo hs' hb hc' => ?_
                            have h15 : ρ (.tmp 15) = .int .i64 (b : Int) := hs'.old' 15 (by kernel_rfl)
                            exact Any.ok_move (Ord.post_val rfl h15)
                          · refine Ord.owes_plain rfl fun ρ Os wo hs' hb hc' => ?_
                            have h118 : ρ (.tmp 118) = .slice (some ⟨bc, oc, none⟩) n cc := hs'.val' 118 6 (by kernel_rfl) rfl
                            have h119 : ρ (.tmp 119) = .int .i64 (b : Int) := hs'.val' 119 7 (by kernel_rfl) rfl
                            go_simp
                            exact Ord.post_val rfl rfl
                          · refine Ord.owes_plain rfl fun ρ Os wo hs' hb hc' => ?_
                            have h120 : ρ (.tmp 120) = .pointer (some ⟨bc, oc + b * 4, none⟩) := hs'.val' 120 8 (by kernel_rfl) rfl
                            go_simp
                            exact Ord.post_val rfl rfl
                          · refine Ord.owes_plain rfl fun ρ Os wo hs' hb hc' => ?_
                            have h121 : ρ (.tmp 121) = .pointer (some ⟨bc, oc + b * 4 + 2, none⟩) := hs'.val' 121 9 (by kernel_rfl) rfl
                            have c0 := (HQE.out wo hb.undrew).2
                            go_simp
                            exact Ord.post_val rfl rfl
                          · refine Ord.owes_plain rfl fun ρ Os wo hs' hb hc' => ?_
                            have h16 : ρ (.tmp 16) = .slice al nl cl := hs'.old' 16 (by kernel_rfl)
                            exact Any.ok_move (Ord.post_val rfl h16)
                          · refine Ord.owes_plain rfl fun ρ Os wo hs' hb hc' => ?_
                            have h117 : ρ (.tmp 117) = .string ep := hs'.val' 117 5 (by kernel_rfl) rfl
                            have h122 : ρ (.tmp 122) = .int .i64 ea := hs'.val' 122 10 (by kernel_rfl) rfl
                            have h123 : ρ (.tmp 123) = .slice al nl cl := hs'.val' 123 11 (by kernel_rfl) rfl
                            go_simp
                            exact Ord.post_val rfl rfl
                          · refine Ord.owes_plain rfl fun ρ Os wo hs' hb hc' => ?_
                            have h124 : ρ (.tmp 124) = .agg #[.string ep, .int .i64 ea, .slice al nl cl] := hs'.val' 124 12 (by kernel_rfl) rfl
                            go_simp
                            exact Ord.post_one rfl
                          · refine Ord.owes_plain rfl fun ρ Os wo hs' hb hc' => ?_
                            have h112 : ρ (.tmp 112) = u9 := hs'.val' 112 0 (by kernel_rfl) rfl
                            exact Ord.ok_grownB Tryd.underlying65 HIR.out.1 HIR.out.2.1 HIR.out.2.2.1 HIR.out.2.2.2 rfl (by decide) h112 (hs'.new' 125 13 (by kernel_rfl)) HOW.out hs'.here rfl (by simp [Value.oneCell']) HLR.out.1 HLR.out.2 (Nat.le_trans HBW.out.size (show w7.heap.size ≤ wo.heap.size from hb.size)) rfl
                          · refine Ord.owes_plain rfl fun ρ Os wo hs' hb hc' => ?_
                            obtain ⟨_, hr1, hr2⟩ := hs'.new' 126 14 (by kernel_rfl)
                            exact Any.ok_assign (Ord.post_passB hr1 hr2 List.mem_cons_self rfl)
                        intro vals Os ρs w8 hk hkn hln hap hbd
                        obtain ⟨k1, -⟩ := hkn 15 (by kernel_rfl)
                        have HK8 := Lib.hid hk
                        have K1 := Lib.hid k1
                        clear hkn hln hap hbd hk k1
                        simp only [Any.putAll]
                        go_frame
                        generalize vals 15 = u8 at *
                        go_wp2_with fail
                        go_roundw
                        case rel =>
                          have hB8 := HK8.out.behind HBW.out HBW.out.size (fun q hq e => by have := (HOW.out.lt q e).1; omega)
                          refine ⟨b + 1, u8, m ++ [⟨ep, ea, .slice al nl cl, legsR R cp ++ [Lg.mk k a b]⟩], Nat.le_succ_of_le HBL.out.1, HBL.out.2, by go_num, rfl, ⟨?_, ?_⟩, ?_, ?_, hB8⟩
                          · rw [List.length_append, rcCells_snoc]; exact K1.out
                          · intro x hx
                            rcases List.mem_append.1 hx with h | h
                            · exact ownsRow_keep (HVO.out x h) HK8.out (fun q hq e => rows_ne (HVO.out x h) HOW.out (by decide) q hq e)
                            · obtain rfl := List.mem_singleton.1 h
                              exact ownsRow_keep HLN.out HK8.out (fun q hq e => rows_ne HLN.out HOW.out (by decide) q hq e)
                          · rw [HTN.out.1]; exact HTN.out.2
                          · rw [List.length_append]; have := HCT.out; simp at this ⊢; omega
                        case measure => have := HBL.out; (simp [intOf]) <;> omega
                      | some q =>
                        obtain ⟨hql, hqp⟩ := rIdx_port hri
                        obtain ⟨g, cap, cur, rfl, -, hgb⟩ := own_pos HOWR.out (by omega)
                        have HGB := Lib.hid hgb
                        clear hgb
                        have HRI : Hid (idxI (rIdx m ep) = (q : Int)) := Lib.hid (by rw [hri]; rfl)
                        have HSE := Lib.hid (fun v => rfOf_set (y := ⟨ep, ea, v, legsR R cp ++ [Lg.mk k a b]⟩) hri)
                        have HQL := Lib.hid hql
                        obtain ⟨dq, hdq⟩ : ∃ dq, m[q].day = dq := ⟨_, rfl⟩
                        have HDQ := Lib.hid hdq
                        obtain ⟨lq, hlq⟩ : ∃ l, m[q].legs = l := ⟨_, rfl⟩
                        have HRF : Hid (rfOf m ep = some (dq, lq)) := Lib.hid (by rw [← hdq, ← hlq]; exact rfOf_some hri hql)
                        clear hlq
                        have hqi : (q : Int) < (m.length : Int) := by omega
                        have t9 : decide ((q : Int) < 0) = false := decide_eq_false (by omega)
                        by_cases hlt : ea < dq
                        · have t10 : decide (ea < dq) = true := decide_eq_true hlt
                          have HTN : Hid ((∀ v, rfOf (m.set q ⟨ep, ea, v, legsR R cp ++ [Lg.mk k a b]⟩) = stepO V R fr (rfOf m) ⟨k, a, b⟩) ∧ (restT k a (b + 1) n ++ (restC R fr ch k n (cs.drop (a + 1)) (a + 1) ++ restV R fr ch (V.drop (k + 1)) (k + 1))).foldl (stepO V R fr) (stepO V R fr (rfOf m) ⟨k, a, b⟩) = T) := Lib.hid ⟨fun v => by
                            rw [HSE.out v]
                            unfold stepO
                            rw [HARC.out]
                            simp only
                            rw [if_neg hef, HRF.out]
                            simp only
                            rw [if_pos hlt, HFR.out], HTT.out⟩
                          clear hef hri hlt hdq hqp
                          go_wp2_with (first
                            | ((refine Any.wpl_append (size := 3) (bytes := 24) (n := 0) (m := nz) (base := wr.heap.size) (vx := .slice (some ⟨wr.heap.size, 0, none⟩) 0 0) (vy := .slice az nz cz) ?_ ?_ ?_ Tryd.underlying26 HIL.out.1 HIL.out.2.1 HIL.out.2.2.1 HIL.out.2.2.2 ?_ (by decide) (own_empty (Nat.le_refl _)) HSZ.out (lgCells_one _) HLL.out.1 HLL.out.2.1 (by simp) ?_); rfl; rfl; rfl; rfl; intro v4 w4 hown4 hgrow4 hwho4
                               rw [List.nil_append, Nat.zero_add] at hown4
                               have HO4 := Lib.hid hown4
                               have HB4 := Lib.hid ((one_below wr (.cells #[] 37)).grown hgrow4 (by simp) (fun q hq => by have : wr.heap.size = q := Option.some.inj hq; omega))
                               have HL4 : Hid (nz + 1 ≤ maxLen ∧ (nz + 1) * 24 ≤ 140737488355328 ∧ wr.heap.size ≤ w4.heap.size) := Lib.hid ⟨HLL.out.2.2.1, HLL.out.2.2.2, HB4.out.size⟩
                               obtain ⟨a4, c4, rfl⟩ := Ord.row_slice hown4
                               clear hown4 hgrow4 hwho4)
                            | (((with_reducible refine Any.wpl_push ?_ ?_ ?_ Tryd.underlying26 HIL.out.1 HIL.out.2.1 HIL.out.2.2.1 HIL.out.2.2.2 ?_ (by decide) ?_ (HLO.out) (HO4.out) HL4.out.1 HL4.out.2.1 HL4.out.2.2 ?_); rfl; rfl; rfl; rfl; rfl; intro v5 w5 hown5 hgrow5 hwho5)
                               have HO5 := Lib.hid hown5
                               have HB5 := Lib.hid (HB4.out.grown hgrow5 HB4.out.size (fun q hq => by have := (HO4.out.lt q hq).1; omega))
                               have HBW := Lib.hid (HBR.out.trans (HB5.out.mono HBR.out.size))
                               have HOW := Lib.hid (ownsRow_below HOWR.out HB5.out)
                               have HFO := Lib.hid (by rw [← HRI.out]; exact find_any m (.slice (some ⟨g, 0, none⟩) m.length cap) ep w5 (own_rcs HOW.out rfl) : Calls Tryd.prog 35 #[(.slice (some ⟨g, 0, none⟩) m.length cap), .string ep] w5 (Ret w5 (.int .i64 (q : Int))))
                               obtain ⟨al, nl, cl, rfl⟩ := own_slice hown5
                               clear hown5 hgrow5 hwho5
                               have f0 := (HPE.out w5 HBW.out).1)
                            | ((with_reducible refine (HFO.out).mono ?_); rintro e w7 ⟨rfl, hb7⟩
                               have HB57 := Lib.hid hb7
                               (have HLN : Hid (w7.ownsRow 0 37 3 (.slice al nl cl) (legsR R cp ++ [Lg.mk k a b]).length (lgCells (legsR R cp ++ [Lg.mk k a b]))) := Lib.hid (by
                                 have h := ownsRow_base (ownsRow_below HO5.out hb7) (Nat.zero_le _)
                                 rw [HLG.out, List.length_append, lgCells_append, ← HNZ.out]
                                 exact h))
                               have HVO := Lib.hid (fun x hx => ownsRow_below (HVOR.out x hx) (HB5.out.trans (hb7.mono HB5.out.size)))
                               have HOW := Lib.hid (ownsRow_below HOW.out hb7)
                               have HBW := Lib.hid (HBW.out.trans (hb7.mono HBW.out.size)); clear hb7)
                            | fail)
                          have HSR := Lib.hid (own_rc_set HOW.out HQL.out ⟨ep, ea, .slice al nl cl, legsR R cp ++ [Lg.mk k a b]⟩)
                          have z9 : w7.cell? ⟨g, q * 3 + 1, none⟩ = some (.int .i64 dq) := HSR.out.2.2.trans (congrArg (fun d => some (Value.int .i64 d)) HDQ.out)
                          have f2 := (HPE.out _ HBW.out).2.1
                          go_quiet (fail)
                          obtain ⟨w8, hw8⟩ : ∃ x, x = w7.drewN nq := ⟨_, rfl⟩
                          have HB78 : Hid (Below w7.heap.size w7 w8) := Lib.hid (hw8 ▸ below_drewN (Below.refl _ _) nq)
                          rw [← hw8]
                          clear hw8 z9 f2 f0 z2 HSR
                          have HB8 := Lib.hid (HBW.out.trans (HB78.out.mono HBW.out.size))
                          have HOW8 := Lib.hid (ownsRow_below HOW.out HB78.out)
                          have HVO8 := Lib.hid (fun x hx => ownsRow_below (HVO.out x hx) HB78.out)
                          have HLN8 := Lib.hid (ownsRow_below HLN.out HB78.out)
                          have f0 := (HPE.out _ HB8.out).1
                          have f2 := (HPE.out _ HB8.out).2.1
                          go_wp2_with fail
                          go_still_tail 15, (by kernel_rfl)
                          change wpList _ _ _ _ _ w8.drew
                          obtain ⟨w9, hw9⟩ : ∃ x, x = w8.drew := ⟨_, rfl⟩
                          have HB89 : Hid (Below w8.heap.size w8 w9) := Lib.hid (hw9 ▸ (Below.refl w8.heap.size w8).drew)
                          rw [← hw9]
                          clear hw9 f0 f2
                          have HB9 := Lib.hid (HB8.out.trans (HB89.out.mono HB8.out.size))
                          have HOW9 := Lib.hid (ownsRow_below HOW8.out HB89.out)
                          have HVO9 := Lib.hid (fun x hx => ownsRow_below (HVO8.out x hx) HB89.out)
                          have HLN9 := Lib.hid (ownsRow_below HLN8.out HB89.out)
                          have HSR := Lib.hid (own_rc_set HOW9.out HQL.out ⟨ep, ea, .slice al nl cl, legsR R cp ++ [Lg.mk k a b]⟩)
                          have f0 := (HPE.out _ HB9.out).1
                          have f2 := (HPE.out _ HB9.out).2.1
                          go_wp2_with (first
                            | (refine wpList_store_mid (P := Tryd.prog) rfl 64 (.tmp 152) (.tmp 151) rfl g (q * 3) #[.string ep, .int .i64 ea, .slice al nl cl] rfl rfl HSR.out.1 (by kernel_rfl) (by simp [Value.oneCell']) ?_)
                            | fail)
                          go_roundw
                          case rel =>
                            refine ⟨b + 1, _, m.set q ⟨ep, ea, .slice al nl cl, legsR R cp ++ [Lg.mk k a b]⟩, Nat.le_succ_of_le HBL.out.1, HBL.out.2, by go_num, rfl, ⟨?_, ?_⟩, ?_, ?_, HB9.out.grown (cells3_grown w9 g (q * 3) (.string ep) (.int .i64 ea) (.slice al nl cl)) HB9.out.size (fun x hx => by obtain rfl := Option.some.inj hx; exact HGB.out)⟩
                            · rw [List.length_set]; exact HSR.out.2.1
                            · intro x hx
                              rcases List.mem_or_eq_of_mem_set hx with h | h
                              · exact ownsRow_keep (HVO9.out x h) (Keep.of_grown (cells3_grown w9 g (q * 3) (.string ep) (.int .i64 ea) (.slice al nl cl))) (fun q hq e => rows_ne (HVO9.out x h) HOW9.out (by decide) q hq e)
                              · subst h
                                exact ownsRow_keep HLN9.out (Keep.of_grown (cells3_grown w9 g (q * 3) (.string ep) (.int .i64 ea) (.slice al nl cl))) (fun q hq e => rows_ne HLN9.out HOW9.out (by decide) q hq e)
                            · rw [HTN.out.1]; exact HTN.out.2
                            · rw [List.length_set]; have := HCT.out; omega
                          case measure => have := HBL.out; (simp [intOf]) <;> omega
                        · have t10 : decide (ea < dq) = false := decide_eq_false hlt
                          have HST : Hid (stepO V R fr (rfOf m) ⟨k, a, b⟩ = rfOf m) := Lib.hid (by
                            unfold stepO
                            rw [HARC.out]
                            simp only
                            rw [if_neg hef, HRF.out]
                            simp only
                            rw [if_neg hlt])
                          clear hef hri hlt hdq hqp
                          go_wp2_with (first
                            | ((refine Any.wpl_append (size := 3) (bytes := 24) (n := 0) (m := nz) (base := wr.heap.size) (vx := .slice (some ⟨wr.heap.size, 0, none⟩) 0 0) (vy := .slice az nz cz) ?_ ?_ ?_ Tryd.underlying26 HIL.out.1 HIL.out.2.1 HIL.out.2.2.1 HIL.out.2.2.2 ?_ (by decide) (own_empty (Nat.le_refl _)) HSZ.out (lgCells_one _) HLL.out.1 HLL.out.2.1 (by simp) ?_); rfl; rfl; rfl; rfl; intro v4 w4 hown4 hgrow4 hwho4
                               rw [List.nil_append, Nat.zero_add] at hown4
                               have HO4 := Lib.hid hown4
                               have HB4 := Lib.hid ((one_below wr (.cells #[] 37)).grown hgrow4 (by simp) (fun q hq => by have : wr.heap.size = q := Option.some.inj hq; omega))
                               have HL4 : Hid (nz + 1 ≤ maxLen ∧ (nz + 1) * 24 ≤ 140737488355328 ∧ wr.heap.size ≤ w4.heap.size) := Lib.hid ⟨HLL.out.2.2.1, HLL.out.2.2.2, HB4.out.size⟩
                               obtain ⟨a4, c4, rfl⟩ := Ord.row_slice hown4
                               clear hown4 hgrow4 hwho4)
                            | (((with_reducible refine Any.wpl_push ?_ ?_ ?_ Tryd.underlying26 HIL.out.1 HIL.out.2.1 HIL.out.2.2.1 HIL.out.2.2.2 ?_ (by decide) ?_ (HLO.out) (HO4.out) HL4.out.1 HL4.out.2.1 HL4.out.2.2 ?_); rfl; rfl; rfl; rfl; rfl; intro v5 w5 hown5 hgrow5 hwho5)
                               have HO5 := Lib.hid hown5
                               have HB5 := Lib.hid (HB4.out.grown hgrow5 HB4.out.size (fun q hq => by have := (HO4.out.lt q hq).1; omega))
                               have HBW := Lib.hid (HBR.out.trans (HB5.out.mono HBR.out.size))
                               have HOW := Lib.hid (ownsRow_below HOWR.out HB5.out)
                               have HFO := Lib.hid (by rw [← HRI.out]; exact find_any m (.slice (some ⟨g, 0, none⟩) m.length cap) ep w5 (own_rcs HOW.out rfl) : Calls Tryd.prog 35 #[(.slice (some ⟨g, 0, none⟩) m.length cap), .string ep] w5 (Ret w5 (.int .i64 (q : Int))))
                               obtain ⟨al, nl, cl, rfl⟩ := own_slice hown5
                               clear hown5 hgrow5 hwho5
                               have f0 := (HPE.out w5 HBW.out).1)
                            | ((with_reducible refine (HFO.out).mono ?_); rintro e w7 ⟨rfl, hb7⟩
                               have HB57 := Lib.hid hb7
                               (have HLN : Hid (w7.ownsRow 0 37 3 (.slice al nl cl) (legsR R cp ++ [Lg.mk k a b]).length (lgCells (legsR R cp ++ [Lg.mk k a b]))) := Lib.hid (by
                                 have h := ownsRow_base (ownsRow_below HO5.out hb7) (Nat.zero_le _)
                                 rw [HLG.out, List.length_append, lgCells_append, ← HNZ.out]
                                 exact h))
                               have HVO := Lib.hid (fun x hx => ownsRow_below (HVOR.out x hx) (HB5.out.trans (hb7.mono HB5.out.size)))
                               have HOW := Lib.hid (ownsRow_below HOW.out hb7)
                               have HBW := Lib.hid (HBW.out.trans (hb7.mono HBW.out.size)); clear hb7)
                            | fail)
                          have HSR := Lib.hid (own_rc_set HOW.out HQL.out ⟨ep, ea, .slice al nl cl, legsR R cp ++ [Lg.mk k a b]⟩)
                          have z9 : w7.cell? ⟨g, q * 3 + 1, none⟩ = some (.int .i64 dq) := HSR.out.2.2.trans (congrArg (fun d => some (Value.int .i64 d)) HDQ.out)
                          have f2 := (HPE.out _ HBW.out).2.1
                          go_quiet (fail)
                          obtain ⟨w8, hw8⟩ : ∃ x, x = w7.drewN nq := ⟨_, rfl⟩
                          have HB78 : Hid (Below w7.heap.size w7 w8) := Lib.hid (hw8 ▸ below_drewN (Below.refl _ _) nq)
                          rw [← hw8]
                          clear hw8 z9 f2 f0 z2 HSR
                          have HB8 := Lib.hid (HBW.out.trans (HB78.out.mono HBW.out.size))
                          have HOW8 := Lib.hid (ownsRow_below HOW.out HB78.out)
                          have HVO8 := Lib.hid (fun x hx => ownsRow_below (HVO.out x hx) HB78.out)
                          have HLN8 := Lib.hid (ownsRow_below HLN.out HB78.out)
                          have f0 := (HPE.out _ HB8.out).1
                          have f2 := (HPE.out _ HB8.out).2.1
                          go_wp2_with fail
                          go_roundw
                          case rel => exact ⟨b + 1, _, m, Nat.le_succ_of_le HBL.out.1, HBL.out.2, by go_num, rfl, ⟨HOW8.out, HVO8.out⟩, by have := HTT.out; rw [HST.out] at this; exact this, by have := HCT.out; omega, HB8.out⟩
                          case measure => have := HBL.out; (simp [intOf]) <;> omega
                    · have HTE : Hid (restT k a b n ++ (restC R fr ch k n (cs.drop (a + 1)) (a + 1) ++ restV R fr ch (V.drop (k + 1)) (k + 1)) = (restC R fr ch k n (cs.drop (a + 1)) (a + 1) ++ restV R fr ch (V.drop (k + 1)) (k + 1))) := Lib.hid (by rw [restT_end _ _ _ _ (by omega)]; rfl)
                      have HTT := Lib.hid htt
                      have HCT := Lib.hid hct
                      have hbi : ¬ ((b : Nat) : Int) < (n : Int) := by omega
                      clear hok htt hct hbel hlb hab hbn
                      go_wp2_with fail
                      go_roundw
                      case rel => exact ⟨a + 1, _, m, HAL.out, by go_num, rfl, ⟨HOWR.out, HVOR.out⟩, by rw [← HTE.out]; exact HTT.out, by rw [← HTE.out]; exact HCT.out, HBR.out⟩
                      case measure => have := HAL.out; (simp [intOf]) <;> omega
                · have tq : decide (cu < dz + ch) = true := decide_eq_true (by omega)
                  rw [decide_eq_false hrq, if_neg (by decide), List.nil_append] at htt hct
                  have HTA := Lib.hid htt
                  have HCA := Lib.hid hct
                  clear htt hct hrq
                  go_wp2_with (first
                    | ((with_reducible refine (HFD.out _ HBR.out).mono ?_); rintro e w3 ⟨rfl, hb3⟩; have HB2R := Lib.hid (HBR.out.trans (hb3.mono HBR.out.size)); have HOK2 := Lib.hid (HOK.out.below hb3); have z1 := HOD.out w3 HB2R.out; have z2 := HOZ.out w3 HB2R.out; have g1 := (HPA.out w3 HB2R.out).2; clear hb3)
                    | fail)
                  go_roundw
                  case rel => exact ⟨a + 1, _, m, HAL.out, by go_num, rfl, HOK2.out, HTA.out, HCA.out, HB2R.out⟩
                  case measure => have := HAL.out; (simp [intOf]) <;> omega
          · have HTE : Hid (restC R fr ch k n (cs.drop a) a = []) := Lib.hid (restC_end _ _ _ _ _ _ _ (by rw [← HCN.out]; omega))
            have hai : ¬ ((a : Nat) : Int) < (n : Int) := by omega
            rw [HTE.out, List.nil_append] at htt hct
            have HTA := Lib.hid htt
            have HCA := Lib.hid hct
            clear htt hct hok hbel hla ha HTE
            go_wp2_with fail
            go_roundw
            case rel => exact ⟨k + 1, _, m, HKL.out, by go_num, rfl, HOK.out, HTA.out, HCA.out, HBR.out⟩
            case measure => have := HKL.out; (simp [intOf]) <;> omega
    · have hkl : ¬ ((k : Nat) : Int) < (l.length : Int) := by omega
      have HE : Hid (rfOf m = T) := Lib.hid (by
        rw [List.drop_eq_nil_of_le (by rw [HVD.out, List.length_map]; omega)] at htt
        exact htt)
      have HC : Hid (m.length ≤ N) := Lib.hid (by omega)
      clear htt hct hok hbel hlt
      go_wp2_with fail
      go_ret
      exact ⟨_, m, rfl, HOK.out, HE.out, HC.out, HBR.out⟩
end Go.Proofs.YtbmjficiceiekaaDoor.Sc
