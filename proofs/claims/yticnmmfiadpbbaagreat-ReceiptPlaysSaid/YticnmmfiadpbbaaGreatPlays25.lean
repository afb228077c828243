/- Behind any calls, right and wrong, each tells what the document says; all receipts in force, and the stock, are the document's. No condition. -/
import Derived.Test.YticnmmfiadpbbaaGreatAwake25
import Derived.Test.YticnmmfiadpbbaaGreatOfH25
namespace Go.Proofs.YticnmmfiadpbbaaGreat.Sc
open Go Go.RowKit
theorem playOk {nm : ByteArray} {l : List Opv} (h : l.length ≤ 20) : HsOk 20 (playH ⟨nm, [], []⟩ (ropsOf l)) := by
  have h1 := (hsOk_nil nm).play (ropsOf l)
  rw [ropsOf, List.length_map, Nat.zero_add] at h1
  exact h1.mono h
theorem refGetP_any {h : Hs} (x : Value) (n : ByteArray) (w : World) (r : RefH w x h) : Calls Tryz.prog 8 #[x, .string n] w (GetHP w h n) := by
  obtain ⟨M, vL, vU, rfl, h1, h2, h3, h4⟩ := r
  refine (refGet_any M h.name n vL vU w h2 h3).mono ?_
  rintro e w' ⟨hb, ⟨hf, rfl⟩ | ⟨y, hy, hf, rfl⟩⟩
  · rw [h1] at hf
    have e1 : getR h n = zeroR := by unfold getR; rw [hf]; rfl
    have e2 : thereB h n = false := by unfold thereB; rw [hf]; rfl
    exact ⟨hb, .slice none 0 0, by rw [e1, e2]; rfl, by rw [e1]; exact .inl ⟨rfl, none, 0, rfl, fun _ => rfl⟩⟩
  · rw [h1] at hf
    have e1 : getR h n = y.rc := by unfold getR; rw [hf]; rfl
    have e2 : thereB h n = true := by unfold thereB; rw [hf]; rfl
    exact ⟨hb, y.lv, by rw [e1, e2], by rw [e1]; exact Sl.below (h3 y hy) hb (Nat.le_refl _)⟩
def heldN (L : List Rc) (b : ByteArray) (k : Nat) : Nat := ((L.take k).filter fun r => decide (r.hold = b)).length
theorem heldN_next {L : List Rc} {b : ByteArray} {k : Nat} (h : k < L.length) : heldN L b (k + 1) = if L[k].hold = b then heldN L b k + 1 else heldN L b k := by
  unfold heldN
  rw [List.take_succ_eq_append_getElem h, List.filter_append, List.length_append]
  by_cases hb : L[k].hold = b
  · rw [if_pos hb, List.filter_cons_of_pos (by simp [hb])]; rfl
  · rw [if_neg hb, List.filter_cons_of_neg (by simp [hb])]; rfl
theorem heldN_at {L : List Rc} {b : ByteArray} {k : Nat} (h : k < L.length) (hb : L[k].hold = b) : (L.filter fun r => decide (r.hold = b))[heldN L b k]? = some L[k] := by
  have e : L.filter (fun r => decide (r.hold = b)) = (L.take k).filter (fun r => decide (r.hold = b)) ++ (L[k] :: (L.drop (k + 1)).filter fun r => decide (r.hold = b)) := by
    have e0 : L = L.take k ++ (L[k] :: L.drop (k + 1)) := by rw [← List.drop_eq_getElem_cons h, List.take_append_drop]
    have e1 := congrArg (List.filter fun r => decide (r.hold = b)) e0
    rw [List.filter_append, List.filter_cons_of_pos (by simp [hb])] at e1
    exact e1
  rw [e, heldN, List.getElem?_append_right (Nat.le_refl _), Nat.sub_self]
  rfl
theorem RefH.rows {w : World} {s vL vU : Value} {h : Hs} (r : RefH w (.agg #[s, vL, vU]) h) : ∃ M : List Rv, rcsOf M = h.L ∧ Sl w 5 vL (M.map Rv.row) ∧ ∀ y ∈ M, RvOk w y := by
  obtain ⟨M, vL', vU', e, h1, h2, h3, -⟩ := r
  simp only [Value.agg.injEq, Array.mk.injEq, List.cons.injEq] at e
  obtain ⟨-, rfl, -, -⟩ := e
  exact ⟨M, h1, h2, h3⟩
end Go.Proofs.YticnmmfiadpbbaaGreat.Sc
namespace Go.Proofs.YticnmmfiadpbbaaGreat.receiptPlays
open Go.ChangeShapes Go.WideShapes Go.ChangeAt Go.RowKit Go Sc
set_option maxRecDepth 100000

set_option maxHeartbeats 16000000 in
theorem walk (w : World) (name : ByteArray) (_ : name.size ≤ maxLen) (l : List Opv) (v : Value) (hs : OpsAt w v l) (hf : ∀ o ∈ l, o.fit) (number : ByteArray) (_ : number.size ≤ maxLen) (holder : ByteArray) (_ : holder.size ≤ maxLen) :
    Calls Tryz.prog 3 #[.string name, v, .string number, .string holder] w (RetB w true) := by
  have HAW := Lib.hid (fun W => awake_any W)
  have HLO := Lib.hid (long_any l v w hs hf)
  cases hlr : longR l
  · rw [hlr] at HLO
    obtain ⟨hsm, hlen⟩ := longR_small hlr
    have HPL := Lib.hid (fun W (hW : Below w.heap.size w W) => play_any name l v W (hs.below hW) hf hsm hlen)
    have HNM := Lib.hid (playH_name ⟨name, [], []⟩ (ropsOf l))
    have HOK := Lib.hid (playOk (nm := name) hlen)
    generalize playH ⟨name, [], []⟩ (ropsOf l) = hq at *
    simp only at HNM
    clear hlr hs hf hsm hlen
    cases t60 : decide ((60 : Int) < (name.size : Int))
    rotate_left
    · skip
      go_enter Tryz.func3, Tryz.ntmps3
      go_wp2_with (first
        | ((with_reducible refine HLO.out.mono ?_); rintro e w1 ⟨rfl, hb1⟩; have HB := Lib.hid hb1; clear hb1)
        | ((with_reducible refine (HAW.out _).mono ?_); rintro e w9 ⟨rfl, hb9⟩; have HB := Lib.hid (HB.out.trans (hb9.mono HB.out.size)); clear hb9)
        | fail)
      go_ret
      exact retB rfl HB.out
    · cases t61 : decide ((60 : Int) < (number.size : Int))
      rotate_left
      · skip
        go_enter Tryz.func3, Tryz.ntmps3
        go_wp2_with (first
          | ((with_reducible refine HLO.out.mono ?_); rintro e w1 ⟨rfl, hb1⟩; have HB := Lib.hid hb1; clear hb1)
          | ((with_reducible refine (HAW.out _).mono ?_); rintro e w9 ⟨rfl, hb9⟩; have HB := Lib.hid (HB.out.trans (hb9.mono HB.out.size)); clear hb9)
          | fail)
        go_ret
        exact retB rfl HB.out
      · cases t62 : decide ((60 : Int) < (holder.size : Int))
        rotate_left
        · skip
          go_enter Tryz.func3, Tryz.ntmps3
          go_wp2_with (first
            | ((with_reducible refine HLO.out.mono ?_); rintro e w1 ⟨rfl, hb1⟩; have HB := Lib.hid hb1; clear hb1)
            | ((with_reducible refine (HAW.out _).mono ?_); rintro e w9 ⟨rfl, hb9⟩; have HB := Lib.hid (HB.out.trans (hb9.mono HB.out.size)); clear hb9)
            | fail)
          go_ret
          exact retB rfl HB.out
        · obtain ⟨⟨gn, gh, go, gl, gd⟩, hgr⟩ : ∃ r, getR hq number = r := ⟨_, rfl⟩
          obtain ⟨ok, hgo⟩ : ∃ b, thereB hq number = b := ⟨_, rfl⟩
          have HGET : Hid (∀ bh bm bu W, Hsx W bh bm bu hq → Calls Tryz.prog 7 #[.pointer (some ⟨bh, 0, none⟩), .string number] W (fun e w' => Below W.heap.size W w' ∧ ∃ lv, e = .returned (.tuple #[.agg #[.string gn, .string gh, .string go, lv, .int .i64 gd], .bool ok]) ∧ Sl w' 2 lv (gl.map Lt.row))) := Lib.hid (fun bh bm bu W h => by
            have := getH_any number W h HOK.out
            unfold GetHP at this
            rw [hgr, hgo] at this
            exact this)
          have HRG : Hid (∀ x W, RefH W x hq → Calls Tryz.prog 8 #[x, .string number] W (fun e w' => Below W.heap.size W w' ∧ ∃ lv, e = .returned (.tuple #[.agg #[.string gn, .string gh, .string go, lv, .int .i64 gd], .bool ok]) ∧ Sl w' 2 lv (gl.map Lt.row))) := Lib.hid (fun x W h => by
            have := refGetP_any x number W h
            unfold GetHP at this
            rw [hgr, hgo] at this
            exact this)
          have HON : Hid (∀ W l1 l2, Sl W 2 l1 (gl.map Lt.row) → Sl W 2 l2 (gl.map Lt.row) → Calls Tryz.prog 9 #[.agg #[.string gn, .string gh, .string go, l1, .int .i64 gd], .agg #[.string gn, .string gh, .string go, l2, .int .i64 gd]] W (RetB W true)) := Lib.hid (fun W l1 l2 hl1 hl2 => by
            have := refOne_any ⟨⟨gn, gh, go, gl, gd⟩, l1⟩ ⟨⟨gn, gh, go, gl, gd⟩, l2⟩ W hl1 hl2
            rw [oneB_self] at this
            exact this)
          have HOF := Lib.hid (fun bh bm bu W (h : Hsx W bh bm bu hq) => ofH_any holder W h HOK.out (by decide))
          unfold OfP at HOF
          have to : (ok != ok) = false := by simp
          clear hgr hgo
          go_enter Tryz.func3, Tryz.ntmps3
          go_wp2_with (first
            | ((with_reducible refine HLO.out.mono ?_); rintro e w1 ⟨rfl, hb1⟩; have HB := Lib.hid hb1; clear hb1)
            | ((with_reducible refine (HPL.out _ HB.out).mono ?_); rintro e w2 ⟨bh, bm, bu, x, rfl, hh2, hr2, hge2, hb2⟩; obtain ⟨a1, m1, c1, a2, m2, c2, ex⟩ := hr2.shape; subst ex; rw [HNM.out] at hr2 ⊢; have hbn := one_below w2 (.cells #[.string name, .slice a1 m1 c1, .slice a2 m2 c2] 29); have HX := Lib.hid (heap_alloc_new w2 (.cells #[.string name, .slice a1 m1 c1, .slice a2 m2 c2] 29)); have HGE : Hid (w.heap.size ≤ bh ∧ w.heap.size ≤ bm ∧ w.heap.size ≤ bu) := Lib.hid (by have := HB.out.size; omega); have HH := Lib.hid (hh2.below hbn); have HR := Lib.hid (hr2.below hbn); have HB := Lib.hid (HB.out.trans ((hb2.trans (hbn.mono hb2.size)).mono HB.out.size)); clear hh2 hr2 hge2 hb2 hbn)
            | ((with_reducible refine (HGET.out _ _ _ _ HH.out).mono ?_); rintro e w5 ⟨hb5, lv, rfl, hs5⟩; obtain ⟨ag, cg, rfl⟩ : ∃ a c, lv = .slice a gl.length c := (by simpa using hs5.shape); have HB := Lib.hid (HB.out.trans (hb5.mono HB.out.size)); have HH := Lib.hid (HH.out.below hb5); have HR := Lib.hid (HR.out.below hb5); have HX := Lib.hid (blk hb5 (lt_blk HX.out) HX.out); have hbn := one_below w5 (.cells #[.string gn, .string gh, .string go, .slice ag gl.length cg, .int .i64 gd] 34); have HG := Lib.hid (heap_alloc_new w5 (.cells #[.string gn, .string gh, .string go, .slice ag gl.length cg, .int .i64 gd] 34)); have HSG := Lib.hid (Sl.below hs5 hbn (Nat.le_refl _)); have HB := Lib.hid (HB.out.trans (hbn.mono HB.out.size)); have HH := Lib.hid (HH.out.below hbn); have HR := Lib.hid (HR.out.below hbn); have HX := Lib.hid (blk hbn (lt_blk HX.out) HX.out); obtain ⟨z0, z1, z2⟩ := cells3_blk HX.out; clear hb5 hbn hs5)
            | ((with_reducible refine (HRG.out _ _ HR.out).mono ?_); rintro e w6 ⟨hb6, lv, rfl, hs6⟩; obtain ⟨aq, cq, rfl⟩ : ∃ a c, lv = .slice a gl.length c := (by simpa using hs6.shape); have HB := Lib.hid (HB.out.trans (hb6.mono HB.out.size)); have HH := Lib.hid (HH.out.below hb6); have HR := Lib.hid (HR.out.below hb6); have HX := Lib.hid (blk hb6 (lt_blk HX.out) HX.out); have hg6 := blk hb6 (lt_blk HG.out) HG.out; obtain ⟨q0, q1, q2, q3, q4⟩ := five_blk hg6; have ql := lt_blk hg6; have hsg := Sl.below HSG.out hb6 (Nat.le_refl _); have hbn := one_below w6 (.cells #[.string gn, .string gh, .string go, .slice aq gl.length cq, .int .i64 gd] 34); have HS1 := Lib.hid (Sl.below hsg hbn (Nat.le_refl _)); have HS2 := Lib.hid (Sl.below hs6 hbn (Nat.le_refl _)); have HB := Lib.hid (HB.out.trans (hbn.mono HB.out.size)); have HH := Lib.hid (HH.out.below hbn); have HR := Lib.hid (HR.out.below hbn); have HX := Lib.hid (blk hbn (lt_blk HX.out) HX.out); clear hb6 hg6 hsg hbn hs6 z0 z1 z2)
            | ((with_reducible refine (HON.out _ _ _ HS1.out HS2.out).mono ?_); rintro e w7 ⟨rfl, hb7⟩; have HB := Lib.hid (HB.out.trans (hb7.mono HB.out.size)); have HH := Lib.hid (HH.out.below hb7); have HR := Lib.hid (HR.out.below hb7); have HX := Lib.hid (blk hb7 (lt_blk HX.out) HX.out); clear hb7 q0 q1 q2 q3 q4 ql)
            | ((with_reducible refine (HOF.out _ _ _ _ HH.out).mono ?_); rintro e w8 ⟨hb8, A, vA, rfl, hA, hsA, hlA⟩; obtain ⟨aA, cA, rfl⟩ : ∃ a c, vA = .slice a A.length c := (by simpa using hsA.shape); have HA := Lib.hid hA; have HSA := Lib.hid hsA; have HLA := Lib.hid hlA; have HB := Lib.hid (HB.out.trans (hb8.mono HB.out.size)); have HH := Lib.hid (HH.out.below hb8); have HR := Lib.hid (HR.out.below hb8); have HX := Lib.hid (blk hb8 (lt_blk HX.out) HX.out); have HB8 := Lib.hid HB.out; obtain ⟨z0, z1, z2⟩ := cells3_blk HX.out; clear hb8 hA hsA hlA)
            | fail)
          obtain ⟨M, hM, hMs, hMr⟩ := HR.out.rows
          have HM1 : Hid (m1 = M.length) := Lib.hid (by
            obtain ⟨_, _, hm⟩ := hMs.shape
            simpa using (Value.slice.inj hm).2.1)
          obtain rfl := HM1.out
          have HMM := Lib.hid hM
          have HMS := Lib.hid hMs
          have HMR := Lib.hid hMr
          have hml : M.length ≤ 9223372036854775807 := by have := hMs.len_le; simp only [List.length_map, maxLen] at this; omega
          have HML : Hid (M.length = hq.L.length ∧ hq.L.length ≤ 1280) := Lib.hid ⟨by have := congrArg List.length hM; simpa [rcsOf] using this, by have := HOK.out.len; omega⟩
          have hal : A.length ≤ 9223372036854775807 := by have := HSA.out.len_le; simp only [List.length_map, maxLen] at this; omega
          have HAL : Hid (A.length = heldN hq.L holder M.length) := Lib.hid (by
            have h1 := congrArg List.length HA.out
            rw [List.length_map] at h1
            rw [h1, heldL, heldN, List.take_of_length_le (by have := HML.out.1; omega)])
          clear hM hMs hMr HM1 z0 z1 z2
          go_loopw [15, 72] (fun nv i wr => ∃ (k : Nat), k ≤ M.length ∧ i = .int .i64 k ∧ nv = .int .i64 (heldN hq.L holder k : Nat) ∧ Below w8.heap.size w8 wr) (fun _ i _ => M.length - (intOf i).toNat)
          case atStart => exact ⟨0, Nat.zero_le _, rfl, rfl, Below.refl _ _⟩
          case round =>
            obtain ⟨k, hk, rfl, rfl, hbel⟩ := hrel
            have HBEL := Lib.hid hbel
            by_cases hlt : k < M.length
            · obtain ⟨b, off, rfl, -, hb, hc⟩ := HMS.out.at (i := k) (by simpa using hlt)
              have hr := hc k M[k].row (by simp [hlt])
              have d0 := (hbel.cell (p := ⟨b, off + k * 5, none⟩) hb).trans (hr 0 _ rfl)
              have d1 := (hbel.cell (p := ⟨b, off + k * 5 + 1, none⟩) hb).trans (hr 1 _ rfl)
              have d2 := (hbel.cell (p := ⟨b, off + k * 5 + 2, none⟩) hb).trans (hr 2 _ rfl)
              have d3 := (hbel.cell (p := ⟨b, off + k * 5 + 3, none⟩) hb).trans (hr 3 _ rfl)
              have d4 := (hbel.cell (p := ⟨b, off + k * 5 + 4, none⟩) hb).trans (hr 4 _ rfl)
              have hyv : RvOk wr M[k] := Sl.below (HMR.out M[k] (List.getElem_mem hlt)) hbel (Nat.le_refl _)
              have hlt' : k < hq.L.length := by have := HML.out.1; omega
              have hLk : hq.L[k] = M[k].rc := by
                have h1 : hq.L[k]? = (rcsOf M)[k]? := by rw [HMM.out]
                rw [List.getElem?_eq_getElem hlt', rcsOf, List.getElem?_map, List.getElem?_eq_getElem hlt] at h1
                exact Option.some.inj h1
              have hnx := heldN_next (b := holder) hlt'
              have hat := heldN_at (b := holder) hlt'
              rw [hLk] at hnx hat
              generalize M[k] = y at *
              obtain ⟨⟨yn, yh, yo, yl, yd⟩, yv⟩ := y
              obtain ⟨ay, cy, rfl⟩ : ∃ a c, yv = .slice a yl.length c := by have := Sl.shape hyv; simpa using this
              simp only at d0 d1 d2 d3 d4 hnx hat
              have HYV := Lib.hid hyv
              obtain ⟨wq, rfl⟩ : ∃ W, W = wr := ⟨_, rfl⟩
              have HBA := Lib.hid (one_below wq (.cells #[.string yn, .string yh, .string yo, .slice ay yl.length cy, .int .i64 yd] 34))
              have HYB := Lib.hid (heap_alloc_new wq (.cells #[.string yn, .string yh, .string yo, .slice ay yl.length cy, .int .i64 yd] 34))
              by_cases hho : yo = holder
              rotate_left
              · have th : (yo.toList == holder.toList) = false := by
                  have : ¬ yo.toList = holder.toList := fun e => hho (by rw [ByteArray.toList_eq, ByteArray.toList_eq] at e; exact bt_inj e)
                  simp [this]
                have HNX : Hid (heldN hq.L holder (k + 1) = heldN hq.L holder k) := Lib.hid (hnx.trans (if_neg hho))
                clear hr hc hb hbel hyv hLk hnx hat hho
                go_wp2_with fail
                go_roundw
                case rel => exact ⟨k + 1, by omega, by go_num, by rw [HNX.out], HBEL.out.trans (HBA.out.mono HBEL.out.size)⟩
                case measure => (simp [intOf]) <;> omega
              · have th : (yo.toList == holder.toList) = true := by rw [hho]; simp
                obtain ⟨n, hn⟩ : ∃ n, n = heldN hq.L holder k := ⟨_, rfl⟩
                have HNN := Lib.hid hn
                have HNX : Hid (heldN hq.L holder (k + 1) = heldN hq.L holder k + 1) := Lib.hid (hnx.trans (if_pos hho))
                have hat2 : (A.map Ro.rc)[n]? = some ⟨yn, yh, yo, yl, yd⟩ := by rw [HA.out, heldL, hn]; exact hat hho
                rw [List.getElem?_map] at hat2
                have hnA : n < A.length := by
                  cases hx : A[n]? with
                  | none => rw [hx] at hat2; cases hat2
                  | some z => exact (List.getElem?_eq_some_iff.1 hx).1
                rw [List.getElem?_eq_getElem hnA] at hat2
                have hrc : A[n].rc = ⟨yn, yh, yo, yl, yd⟩ := Option.some.inj hat2
                have tge2 : decide (A.length ≤ n) = false := decide_eq_false (by omega)
                obtain ⟨bF, offF, rfl, -, hbF, hcF⟩ := HSA.out.at (i := n) (by simpa using hnA)
                have hrF := hcF n A[n].row (by simp [hnA])
                have hlF := HLA.out A[n] (List.getElem_mem hnA)
                obtain ⟨⟨rc, aa, ca⟩, hAn⟩ : ∃ z, A[n] = z := ⟨_, rfl⟩
                rw [hAn] at hrF hlF hrc
                simp only at hrc
                subst hrc
                have HAC : Hid (∀ W, Below wq.heap.size wq W → W.cell? ⟨bF, offF + n * 5, none⟩ = some (.string yn) ∧ W.cell? ⟨bF, offF + n * 5 + 1, none⟩ = some (.string yh) ∧ W.cell? ⟨bF, offF + n * 5 + 2, none⟩ = some (.string yo) ∧ W.cell? ⟨bF, offF + n * 5 + 3, none⟩ = some (.slice aa yl.length ca) ∧ W.cell? ⟨bF, offF + n * 5 + 4, none⟩ = some (.int .i64 yd)) := Lib.hid (fun W hW => by
                  have hWW := HBEL.out.trans (hW.mono HBEL.out.size)
                  exact ⟨(hWW.cell (p := ⟨bF, _, none⟩) hbF).trans (hrF 0 _ rfl), (hWW.cell (p := ⟨bF, _, none⟩) hbF).trans (hrF 1 _ rfl), (hWW.cell (p := ⟨bF, _, none⟩) hbF).trans (hrF 2 _ rfl), (hWW.cell (p := ⟨bF, _, none⟩) hbF).trans (hrF 3 _ rfl), (hWW.cell (p := ⟨bF, _, none⟩) hbF).trans (hrF 4 _ rfl)⟩)
                have HONE : Hid (∀ W, Below wq.heap.size wq W → Calls Tryz.prog 9 #[.agg #[.string yn, .string yh, .string yo, .slice aa yl.length ca, .int .i64 yd], .agg #[.string yn, .string yh, .string yo, .slice ay yl.length cy, .int .i64 yd]] W (RetB W true)) := Lib.hid (fun W hW => by
                  have hWW := HBEL.out.trans (hW.mono HBEL.out.size)
                  have := refOne_any ⟨⟨yn, yh, yo, yl, yd⟩, .slice aa yl.length ca⟩ ⟨⟨yn, yh, yo, yl, yd⟩, .slice ay yl.length cy⟩ W (Sl.below hlF hWW (Nat.le_refl _)) (Sl.below HYV.out hW (Nat.le_refl _))
                  rw [oneB_self] at this
                  exact this)
                rw [← hn]
                have hn9 : n ≤ 1280 := by have h1 := HAL.out; have h2 := HML.out; have h3 : heldN hq.L holder M.length ≤ hq.L.length := Nat.le_trans (List.length_filter_le _ _) (by rw [List.length_take]; omega); omega
                clear hr hc hb hbel hyv hLk hnx hat hho hn hat2 hbF hcF hrF hlF hAn
                go_wp2_with fail
                refine Any.region_lit (fun
                  | 0 => Any.val (.int .i64 n)
                  | 1 => Any.val (.slice (some ⟨bF, offF, none⟩) A.length cA)
                  | 2 => Any.val (.int .i64 A.length)
                  | 3 => Any.val (.bool false)
                  | 4 => Any.val (.bool false)
                  | 5 => Any.val (.slice (some ⟨bF, offF, none⟩) A.length cA)
                  | 6 => Any.val (.int .i64 n)
                  | 7 => Any.val (.pointer (some ⟨bF, offF + n * 5, none⟩))
                  | 8 => Any.val (.agg #[.string yn, .string yh, .string yo, .slice aa yl.length ca, .int .i64 yd])
                  | 9 => Any.val (.agg #[.string yn, .string yh, .string yo, .slice ay yl.length cy, .int .i64 yd])
                  | 10 => Any.val (.bool true)
                  | 11 => Any.val (.bool false)
                  | 12 => Any.val (.bool false)
                  | _ => Any.idle) (by kernel_rfl) (by kernel_rfl) (by kernel_rfl) ?_ ?_ ?_
                · intro i _
                  match i with
                  | 0 => exact Any.lasts_val _
                  | 1 => exact Any.lasts_val _
                  | 2 => exact Any.lasts_val _
                  | 3 => exact Any.lasts_val _
                  | 4 => exact Any.lasts_val _
                  | 5 => exact Any.lasts_val _
                  | 6 => exact Any.lasts_val _
                  | 7 => exact Any.lasts_val _
                  | 8 => exact Any.lasts_val _
                  | 9 => exact Any.lasts_val _
                  | 10 => exact Any.lasts_val _
                  | 11 => exact Any.lasts_val _
                  | 12 => exact Any.lasts_val _
                  | n + 13 => exact Any.lasts_idle
                · refine ⟨?_, ?_, ?_, ?_, ?_, ?_, ?_, ?_, ?_, ?_, ?_, ?_, ?_, trivial⟩
                  · refine Any.owes_plain rfl fun ρ wo hs' hb hc' => ?_
                    have h15 : ρ (.tmp 15) = .int .i64 n := hs'.old' 15 (by kernel_rfl)
                    exact Any.ok_move (Any.post_val hb rfl h15)
                  · refine Any.owes_plain rfl fun ρ wo hs' hb hc' => ?_
                    have h16 : ρ (.tmp 16) = .slice (some ⟨bF, offF, none⟩) A.length cA := hs'.old' 16 (by kernel_rfl)
                    exact Any.ok_move (Any.post_val hb rfl h16)
                  · refine Any.owes_plain rfl fun ρ wo hs' hb hc' => ?_
                    have h81 : ρ (.tmp 81) = .slice (some ⟨bF, offF, none⟩) A.length cA := hs'.new' 81 1 (by kernel_rfl)
                    go_simp
                    exact Any.post_val hb rfl rfl
                  · refine Any.owes_plain rfl fun ρ wo hs' hb hc' => ?_
                    have h80 : ρ (.tmp 80) = .int .i64 n := hs'.new' 80 0 (by kernel_rfl)
                    have h82 : ρ (.tmp 82) = .int .i64 A.length := hs'.new' 82 2 (by kernel_rfl)
                    go_simp
                    exact Any.post_val hb rfl (by first | rfl | rw [tge2])
                  · refine Any.owes_plain rfl fun ρ wo hs' hb hc' => ?_
                    have h83 : ρ (.tmp 83) = .bool false := hs'.new' 83 3 (by kernel_rfl)
                    exact Any.ok_move (Any.post_val hb rfl h83)
                  · refine Any.owes_on rfl rfl (by kernel_rfl) rfl fun ρ wo hs' hb hc' => ?_
                    have h16 : ρ (.tmp 16) = .slice (some ⟨bF, offF, none⟩) A.length cA := hs'.old' 16 (by kernel_rfl)
                    exact Any.ok_move (Any.post_val hb rfl h16)
                  · refine Any.owes_on rfl rfl (by kernel_rfl) rfl fun ρ wo hs' hb hc' => ?_
                    have h15 : ρ (.tmp 15) = .int .i64 n := hs'.old' 15 (by kernel_rfl)
                    exact Any.ok_move (Any.post_val hb rfl h15)
                  · refine Any.owes_on rfl rfl (by kernel_rfl) rfl fun ρ wo hs' hb hc' => ?_
                    have h85 : ρ (.tmp 85) = .slice (some ⟨bF, offF, none⟩) A.length cA := hs'.new' 85 5 (by kernel_rfl)
                    have h86 : ρ (.tmp 86) = .int .i64 n := hs'.new' 86 6 (by kernel_rfl)
                    go_simp
                    exact Any.post_val hb rfl rfl
                  · refine Any.owes_on rfl rfl (by kernel_rfl) rfl fun ρ wo hs' hb hc' => ?_
                    have h87 : ρ (.tmp 87) = .pointer (some ⟨bF, offF + n * 5, none⟩) := hs'.new' 87 7 (by kernel_rfl)
                    obtain ⟨f0, f1, f2, f3, f4⟩ := HAC.out wo (HBA.out.trans ((below_undrew hb).mono HBA.out.size))
                    go_simp
                    exact Any.post_val hb rfl rfl
                  · refine Any.owes_on rfl rfl (by kernel_rfl) rfl fun ρ wo hs' hb hc' => ?_
                    have h18 : ρ (.tmp 18) = .pointer (some ⟨wq.heap.size, 0, none⟩) := hs'.old' 18 (by kernel_rfl)
                    obtain ⟨y0, y1, y2, y3, y4⟩ := five_blk (blk (below_undrew hb) (lt_blk HYB.out) HYB.out)
                    go_simp
                    exact Any.post_val hb rfl rfl
                  · refine Any.owes_on rfl rfl (by kernel_rfl) rfl fun ρ wo hs' hb hc' => ?_
                    have h88 : ρ (.tmp 88) = .agg #[.string yn, .string yh, .string yo, .slice aa yl.length ca, .int .i64 yd] := hs'.new' 88 8 (by kernel_rfl)
                    have h89 : ρ (.tmp 89) = .agg #[.string yn, .string yh, .string yo, .slice ay yl.length cy, .int .i64 yd] := hs'.new' 89 9 (by kernel_rfl)
                    have hf := hs'.func 9
                    go_simp
                    exact (HONE.out wo (HBA.out.trans ((below_undrew hb).mono HBA.out.size))).mono fun e w' ⟨he, hb'⟩ => ⟨_, he, Any.post_vals hb rfl rfl hb'⟩
                  · refine Any.owes_on rfl rfl (by kernel_rfl) rfl fun ρ wo hs' hb hc' => ?_
                    have h90 : ρ (.tmp 90) = .bool true := hs'.new' 90 10 (by kernel_rfl)
                    go_simp
                    exact Any.post_val hb rfl rfl
                  · refine Any.owes_plain rfl fun ρ wo hs' hb hc' => ?_
                    have h84 : ρ (.tmp 84) = .bool false := hs'.new' 84 4 (by kernel_rfl)
                    have h91 : ρ (.tmp 91) = .bool false := hs'.new' 91 11 (by kernel_rfl)
                    exact Any.ok_pick (b := false) h84 (Any.post_val hb rfl h91)
                intro vals w9 hb hk ha
                have h12 : vals 12 = .bool false := hk 12 (by kernel_rfl)
                have HB9 := Lib.hid (HBA.out.trans (hb.mono HBA.out.size))
                clear hk ha hb
                simp only [Any.putAll]
                go_frame
                simp only [Nat.zero_add, Nat.reduceAdd]
                rw [h12]
                go_wp2_with fail
                go_roundw
                case rel => exact ⟨k + 1, by omega, by go_num, by rw [HNX.out, HNN.out]; first | rfl | simp, HBEL.out.trans (HB9.out.mono HBEL.out.size)⟩
                case measure => (simp [intOf]) <;> omega
            · have HB := Lib.hid (HB8.out.trans (hbel.mono HB8.out.size))
              have hkm : k = M.length := by omega
              subst hkm
              have te : (((heldN hq.L holder M.length : Nat) : Int) == (A.length : Int)) = true := by rw [HAL.out]; simp
              clear hbel
              go_wp2_with (first
                | ((with_reducible refine (HAW.out _).mono ?_); rintro e w9 ⟨rfl, hb9⟩; have HB := Lib.hid (HB.out.trans (hb9.mono HB.out.size)); clear hb9)
                | fail)
              go_ret
              exact retB rfl HB.out
  · rw [hlr] at HLO
    clear hlr hs hf
    go_enter Tryz.func3, Tryz.ntmps3
    go_wp2_with (first
      | ((with_reducible refine HLO.out.mono ?_); rintro e w1 ⟨rfl, hb1⟩; have HB := Lib.hid hb1; clear hb1)
      | ((with_reducible refine (HAW.out _).mono ?_); rintro e w9 ⟨rfl, hb9⟩; have HB := Lib.hid (HB.out.trans (hb9.mono HB.out.size)); clear hb9)
      | fail)
    go_ret
    exact retB rfl HB.out

theorem lifted (os : Os) (started : os.Started) (H : Type) (enc : TypeId × Value → H) :
    ReturnsInHanded {} Tryz.checked os 3 .any (Rows.receiptPlaysSpec.pre6 enc Tryz.prog Tryz.f3 Rows.receiptPlaysRow.domain false) (Rows.receiptPlaysSpec.post enc Tryz.prog Tryz.f3 false true false false) := by
  refine law_lifted os started (by kernel_rfl) Tryz.func3
    (ChangeSpec.witness6 (enc := enc) (C := Tryz.checked) false ⟨#[], #[.string ⟨#[]⟩, .slice none 0 0, .string ⟨#[]⟩, .string ⟨#[]⟩], []⟩ 8 (by kernel_rfl) (by kernel_rfl) (by kernel_rfl) (by kernel_rfl))
    (by kernel_rfl) rfl rfl ?_ ?_
  · intro vs ds W p hA
    rw [Tryz.params3] at hA
    obtain ⟨v0, vs0, d0, ds0, p0, q0, rfl, rfl, rfl, h0, r0⟩ := trodAll_cons hA
    obtain ⟨v1, vs1, d1, ds1, p1, q1, rfl, rfl, rfl, h1, r1⟩ := trodAll_cons r0
    obtain ⟨v2, vs2, d2, ds2, p2, q2, rfl, rfl, rfl, h2, r2⟩ := trodAll_cons r1
    obtain ⟨v3, vs3, d3, ds3, p3, q3, rfl, rfl, rfl, h3, r3⟩ := trodAll_cons r2
    obtain ⟨rfl, rfl, rfl⟩ := trodAll_nil r3
    rfl
  · intro W base args ds p hval hA
    rw [Tryz.params3] at hA hval
    obtain ⟨v0, vs0, d0, ds0, p0, q0, hargs, rfl, rfl, h0, r0⟩ := trodAll_cons hA
    obtain ⟨v1, vs1, d1, ds1, p1, q1, rfl, rfl, rfl, h1, r1⟩ := trodAll_cons r0
    obtain ⟨v2, vs2, d2, ds2, p2, q2, rfl, rfl, rfl, h2, r2⟩ := trodAll_cons r1
    obtain ⟨v3, vs3, d3, ds3, p3, q3, rfl, rfl, rfl, h3, r3⟩ := trodAll_cons r2
    obtain ⟨rfl, rfl, rfl⟩ := trodAll_nil r3
    obtain rfl : args = #[v0, v1, v2, v3] := by cases args; simp_all
    obtain ⟨a0, rfl, rfl, rfl, w0⟩ := Go.ChangeMaps.open_string Tryz.underlying9 (hval 0 9 v0 rfl rfl) h0
    obtain ⟨l1, hs1, hf1⟩ := open_ops25 (hval 1 22 v1 rfl rfl) h1
    obtain ⟨a2, rfl, rfl, rfl, w2⟩ := Go.ChangeMaps.open_string Tryz.underlying9 (hval 2 9 v2 rfl rfl) h2
    obtain ⟨a3, rfl, rfl, rfl, w3⟩ := Go.ChangeMaps.open_string Tryz.underlying9 (hval 3 9 v3 rfl rfl) h3
    exact walk W a0 w0 l1 v1 hs1 hf1 a2 w2 a3 w3

theorem over : Rows.receiptPlaysRow.holds Tryz.pinned (OpenSpec.ofChange Rows.receiptPlaysSpec) :=
  OpenClaim.holds_of_wide 3 Tryz.f3 rfl rfl rfl rfl rfl rfl rfl ⟨rfl, rfl, rfl, rfl, rfl⟩ rfl rfl rfl rfl rfl (by kernel_rfl) Tryz.func3 (by kernel_rfl)
    (of_decide_eq_true (by kernel_rfl)) (by unfold Func.isWrapper; rw [if_neg (by decide +kernel)]; exact ⟨rfl, rfl⟩)
    (fun os started H enc _ => lifted os started H enc)

/-- The statement. -/
theorem proved : Rows.ReceiptPlaysSaid := over
#print axioms proved
end Go.Proofs.YticnmmfiadpbbaaGreat.receiptPlays
