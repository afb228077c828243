/- Pay: by the reference, walked. -/
import Derived.Test.YtnlfhncbnfmccaaRefPay26
import Derived.Deep.CutRange
namespace Go.Proofs.Ytnlfhncbnfmccaa.Sc
open Go Go.RowKit Go.ChangeShapes Go.WideShapes Go.ChangeAt
set_option maxRecDepth 100000

theorem entCells_flat (l : List (ByteArray × Int)) : entCells l = (l.map entRow).flatten := by rw [entCells, List.flatMap_def]
theorem own_ents {w : World} {B n : Nat} {v : Value} {l : List (ByteArray × Int)} (h : w.ownsRow B 35 3 v n (entCells l)) (hn : n = l.length) : Sl w 3 v (l.map entRow) := by
  rw [entCells_flat] at h
  exact own_sl h (by simpa using hn) (by
    intro r hr
    obtain ⟨d, _, rfl⟩ := List.mem_map.1 hr
    rfl)
theorem sl_push {w w' : World} {sz : Nat} {o : Option Nat} {v : Value} {l : List Pg} (h : Sl w sz v (l.map Pg.row)) (hg : w.grownBy w' o) (hoff : Off (fun b => o = some b) v ∨ l = []) : Sl w' sz v (l.map Pg.row) := by
  rcases hoff with h1 | rfl
  · exact h.keep (Keep.of_grown hg) h1
  · rcases h with ⟨_, a, c, rfl, hn⟩ | ⟨b, off, cap, rfl, _⟩
    · exact .inl ⟨rfl, a, c, rfl, hn⟩
    · exact .inl ⟨rfl, _, _, rfl, fun h => by cases h⟩
def RPayP (w : World) (F : Nat → Prop) (l : List Pg) (t : ByteArray) (s : Int) (e : Ending) (w' : World) : Prop :=
  ∃ v1 v2, e = .returned (.tuple #[v1, .int .i64 (payS (rankOf (ofT l t)) s), v2]) ∧ Sl w' 3 v1 ((payE (rankOf (ofT l t)) s).map entRow) ∧ Sl w' 6 v2 ((paidL l t (payE (rankOf (ofT l t)) s)).map Pg.row) ∧ (Off F v2 ∨ paidL l t (payE (rankOf (ofT l t)) s) = []) ∧ Below w.heap.size w w'
set_option maxHeartbeats 16000000 in
theorem refPay_any (l : List Pg) (t : ByteArray) (s : Int) (v : Value) (w : World) (F : Nat → Prop) (hs : Sl w 6 v (l.map Pg.row)) (hof : Off F v ∨ l = []) (hFl : ∀ k, F k → k < w.heap.size) (hl : l.length ≤ 4000) (hS : 0 ≤ s ∧ s ≤ 1099511627776) (hok : LnOk l) :
    Calls Try.prog 40 #[v, .string t, .int .i64 s] w (RPayP w F l t s) := by
  obtain ⟨i0, hi, hz, hsz, hby⟩ := info_parts infoPg
  have HI := Lib.hid (And.intro hi (And.intro hz (And.intro hsz hby)))
  clear hi hz hsz hby
  obtain ⟨i1, hi, hz, hsz, hby⟩ := info_parts infoEn
  have HJ := Lib.hid (And.intro hi (And.intro hz (And.intro hsz hby)))
  clear hi hz hsz hby
  have HRK := Lib.hid (refRank_any l t v w hs hl ((hok.helds.sublist (List.filter_sublist (p := fun x => decide (x.thing = t)))).imp_of_mem fun {x y} hx hy hxy => hxy ((ofT_mem.1 hx).2.trans (ofT_mem.1 hy).2.symm)))
  have HS := Lib.hid hs
  have HA1 : Hid (∀ x ∈ l, 1 ≤ x.amt) := Lib.hid fun x hx => (hok.fit x hx).2.1
  have HA2 : Hid (∀ x ∈ l, 1 ≤ x.amt ∧ x.amt ≤ 1099511627776) := Lib.hid fun x hx => ⟨(hok.fit x hx).2.1, (hok.fit x hx).2.2.1⟩
  have HND := Lib.hid (rank_nodup hok t)
  have HOK : Hid (∀ x ∈ rankOf (ofT l t), 1 ≤ x.amt ∧ x.amt ≤ 1099511627776) := Lib.hid fun x hx => HA2.out x (ofT_mem.1 ((rankOf_perm _).mem_iff.1 hx)).1
  have HEL : Hid ((rankOf (ofT l t)).length ≤ 4000) := Lib.hid (by
    rw [(rankOf_perm _).length_eq]
    exact Nat.le_trans (List.length_filter_le _ _) hl)
  have HRP : Hid (∀ e w' v1 v2, e = .returned (.tuple #[v1, .int .i64 (payS (rankOf (ofT l t)) s), v2]) → Sl w' 3 v1 ((payE (rankOf (ofT l t)) s).map entRow) → Sl w' 6 v2 ((paidL l t (payE (rankOf (ofT l t)) s)).map Pg.row) → (Off F v2 ∨ paidL l t (payE (rankOf (ofT l t)) s) = []) → Below w.heap.size w w' → RPayP w F l t s e w') := Lib.hid fun e w' v1 v2 h1 h2 h3 h5 h4 => ⟨v1, v2, h1, h2, h3, h5, h4⟩
  have HLN := Lib.hid hl
  generalize rankOf (ofT l t) = E at *
  have HOFV := Lib.hid hof
  have HFL := Lib.hid hFl
  clear hs hl hok hof hFl
  go_enter Try.func40, Try.ntmps40
  go_wp2_with (first
    | ((with_reducible refine HRK.out.mono ?_); rintro e w2 ⟨v2, rfl, ho2, hb2⟩; have HSE := Lib.hid (own_pgs ho2 rfl); obtain ⟨ae, ce, rfl⟩ : ∃ a c, v2 = .slice a E.length c := (by simpa using HSE.out.shape); have HB2 := Lib.hid hb2; clear ho2 hb2)
    | fail)
  have hel := HEL.out
  go_loopw [0, 2, 10, 11, 12, 13, 14, 15] (fun lv sv out i _ _ _ _ wr => ∃ k : Nat, k ≤ E.length ∧ i = .int .i64 k ∧ sv = .int .i64 (payS (E.take k) s) ∧ wr.ownsRow w2.heap.size 35 3 out (payE (E.take k) s).length (entCells (payE (E.take k) s)) ∧ (payE (E.take k) s).length ≤ k ∧ Sl wr 6 lv ((paidL l t (payE (E.take k) s)).map Pg.row) ∧ (Off (fun b => out.ownBlock = some b) lv ∨ paidL l t (payE (E.take k) s) = []) ∧ (Off F lv ∨ paidL l t (payE (E.take k) s) = []) ∧ Below w2.heap.size w2 wr) (fun _ _ _ i _ _ _ _ _ => E.length - (intOf i).toNat)
  case atStart => exact ⟨0, Nat.zero_le _, rfl, rfl, own_empty (Nat.le_refl _), Nat.le_refl _, by
    show Sl _ 6 v ((paidL l t []).map Pg.row)
    rw [paidL_nil t HA1.out]
    exact (HS.out.below HB2.out (Nat.le_refl _)).below (one_below _ _) (Nat.le_refl _), by
    show _ ∨ paidL l t [] = []
    rw [paidL_nil t HA1.out]
    rcases Decidable.em (l = []) with h0 | h0
    · exact .inr h0
    · refine .inl (Sl.off_old (HS.out.below HB2.out (Nat.le_refl _)) (by simpa using h0) fun b hb e => ?_)
      have e' : w2.heap.size = b := Option.some.inj e
      omega, by
    show _ ∨ paidL l t [] = []
    rw [paidL_nil t HA1.out]
    exact HOFV.out, one_below _ _⟩
  case round =>
    obtain ⟨k, hk, rfl, rfl, hown, hle, hsl, hoff, hof2, hbel⟩ := hrel
    have HOFF := Lib.hid hoff
    have HOF2 := Lib.hid hof2
    clear hoff hof2
    have HOWN := Lib.hid hown
    have HBEL := Lib.hid hbel
    have HSL := Lib.hid hsl
    by_cases hlt : k < E.length
    · obtain ⟨be, oe, rfl, hb, hp⟩ := pg_at HSE.out hlt
      obtain ⟨-, -, d2, -, d4, -⟩ := hp.below hb hbel
      have hx := HOK.out E[k] (List.getElem_mem hlt)
      have hsr := payS_range (r := E.take k) hS.1 (fun y hy => (HOK.out y (List.mem_of_mem_take hy)).1)
      have HES := payE_snoc (E.take k) E[k] s
      have HSS := payS_snoc (E.take k) E[k] s
      rw [← List.take_succ_eq_append_getElem hlt] at HES HSS
      have HNO := Lib.hid (pre_cred hlt HND.out s)
      have HGS := Lib.hid (gotC_small (r := E.take k) hS.1 hS.2 (fun y hy => (HOK.out y (List.mem_of_mem_take hy)).1))
      have HLA := Lib.hid (paidL_amt (t := t) HA2.out HGS.out)
      have HLL : Hid ((paidL l t (payE (E.take k) s)).length ≤ 4000) := Lib.hid (Nat.le_trans (paidL_len _ _ _) HLN.out)
      have HCS := Lib.hid (fun m => paidL_snoc (t := t) (m := m) HA1.out HNO.out)
      have HEC := Lib.hid (fun W (hW : Below w2.heap.size w2 W) => (hp.below hb hW).2.2.1)
      have tk : ((k : Nat) : Int) < (E.length : Int) := by omega
      generalize E[k].cred = ec at *
      generalize E[k].amt = ea at *
      generalize payS (E.take k) s = S at *
      generalize payE (E.take k) s = e at *
      obtain ⟨m, hm⟩ : ∃ m, m = min ea S := ⟨_, rfl⟩
      rw [← hm] at HES HSS
      have HSS := Lib.hid HSS
      clear hb hp hbel hsl hown
      have tn : 0 ≤ S := hsr.1
      by_cases hse : S < ea
      · obtain rfl : m = S := by omega
        have ts : decide (m < ea) = true := decide_eq_true hse
        by_cases hm0 : m = 0
        · have HEZ : Hid (payE (E.take (k + 1)) s = e) := Lib.hid (by rw [HES]; exact if_pos hm0)
          subst hm0
          clear hm hse
          go_wp2_with fail
          go_roundw
          case rel => exact ⟨k + 1, by omega, by go_num, by rw [HSS.out]; rfl, by rw [HEZ.out]; exact HOWN.out, by rw [HEZ.out]; omega, by rw [HEZ.out]; exact HSL.out, by rw [HEZ.out]; exact HOFF.out, by rw [HEZ.out]; exact HOF2.out, HBEL.out⟩
          case measure => (simp [intOf]) <;> omega
        clear hse
        have hmb : 0 ≤ m ∧ m ≤ 1099511627776 := by omega
        have HES : Hid (payE (E.take (k + 1)) s = e ++ [(ec, m)]) := Lib.hid (by rw [HES]; exact if_neg hm0)
        have tm0 : (m == 0) = false := by simp [hm0]
        have HL2 : Hid (e.length + 1 ≤ maxLen ∧ (e.length + 1) * 40 ≤ 140737488355328 ∧ w2.heap.size ≤ wr.heap.size) := Lib.hid (by have := HBEL.out.size; simp only [maxLen]; omega)
        have HCS := Lib.hid (HCS.out m)
        clear hm hm0
        go_wp2_with (first
          | (((with_reducible refine Any.wpl_push ?_ ?_ ?_ Try.underlying30 HJ.out.1 HJ.out.2.1 HJ.out.2.2.1 HJ.out.2.2.2 ?_ (by decide) ?_ (ent_one ec m) (HOWN.out) HL2.out.1 HL2.out.2.1 HL2.out.2.2 ?_); rfl; rfl; rfl; rfl; rfl; intro v5 w5 hown5 hgrow5 hwho5); have HO5 := Lib.hid hown5; have HG5 := Lib.hid hgrow5; clear hown5 hgrow5 hwho5)
          | fail)
        have HB5 : Hid (Below w2.heap.size w2 w5) := Lib.hid (HBEL.out.grown HG5.out HBEL.out.size (fun i hi => (HOWN.out.lt i hi).1))
        have HSL5 := Lib.hid (sl_push HSL.out HG5.out HOFF.out)
        generalize paidL l t e = L at *
        obtain ⟨al, cl, rfl⟩ : ∃ a c, u0 = .slice a L.length c := by simpa using HSL5.out.shape
        have hll := HLL.out
        clear d2 d4 tm0 hx hsr tn
        go_loopw [13, 14, 15] (fun lf i _ wr => ∃ j : Nat, j ≤ L.length ∧ i = .int .i64 j ∧ wr.ownsRow w5.heap.size 37 6 lf ((L.take j).filterMap (cutC t ec m)).length (pgCells ((L.take j).filterMap (cutC t ec m))) ∧ Below w5.heap.size w5 wr) (fun _ i _ _ => L.length - (intOf i).toNat)
        case atStart => exact ⟨0, Nat.zero_le _, rfl, own_empty (Nat.le_refl _), one_below _ _⟩
        case round =>
          obtain ⟨j, hj, rfl, hown, hbel⟩ := hrel
          by_cases hlj : j < L.length
          · obtain ⟨b, off, rfl, hb, hp⟩ := pg_at HSL5.out hlj
            obtain ⟨d0, d1, d2, d3, d4, d5⟩ := hp.below hb hbel
            have HFF := filterMap_next hlj (cutC t ec m)
            have hxa := HLA.out L[j] (List.getElem_mem hlj)
            have HLE : Hid (((L.take j).filterMap (cutC t ec m)).length ≤ 4000) := Lib.hid (by
              have h1 := List.length_filterMap_le (cutC t ec m) (L.take j)
              have h2 := List.length_take_le j L
              omega)
            have HJL := Lib.hid hlj
            have tj : ((j : Nat) : Int) < (L.length : Int) := by omega
            generalize (L.take j).filterMap (cutC t ec m) = D at *
            generalize L[j] = x at *
            obtain ⟨bx, hbx⟩ : ∃ b, b = wr.heap.size := ⟨_, rfl⟩
            obtain ⟨wA, hwA⟩ : ∃ W, W = wr.alloc (.cells x.cells 37) := ⟨_, rfl⟩
            have HXN : Hid (wA.heap[bx]? = some (.cells x.cells 37 (0, 0))) := Lib.hid (by rw [hwA, hbx]; exact heap_alloc_new _ _)
            have HBA : Hid (Below w5.heap.size w5 wA) := Lib.hid (by rw [hwA]; exact hbel.alloc hbel.size _)
            have HOA : Hid (wA.ownsRow w5.heap.size 37 6 u13 D.length (pgCells D)) := Lib.hid (by rw [hwA]; exact ownsRow_below hown (one_below _ _))
            have HNB : Hid (∀ g, (u13).ownBlock = some g → g ≠ bx) := Lib.hid (fun g hg => by have h1 := (hown.lt g hg).2; omega)
            have HBXB : Hid (w5.heap.size ≤ bx) := Lib.hid (by rw [hbx]; exact hbel.size)
            have HPO := Lib.hid (pg_one x)
            have HPB := Lib.hid (fun (W : World) (b : Nat) (h : W.heap[b]? = some (.cells x.cells 37 (0, 0))) => pgBox_of h)
            have HXT := Lib.hid (fun W (hW : Below wA.heap.size wA W) => (pgBox_of (blk hW (lt_blk HXN.out) HXN.out)).1)
            have HXC := Lib.hid (fun W (hW : Below wA.heap.size wA W) => (pgBox_of (blk hW (lt_blk HXN.out) HXN.out)).2.2.1)
            have HEC := Lib.hid (fun W (hW : Below wA.heap.size wA W) => HEC.out W (HB5.out.trans ((HBA.out.trans (hW.mono HBA.out.size)).mono HB5.out.size)))
            have HPQ := Lib.hid (fun (W : World) (b : Nat) (h : W.heap[b]? = some (.cells (Pg.cells { x with amt := x.amt - m }) 37 (0, 0))) => pgBox_of h)
            have HPS := Lib.hid (pg_one { x with amt := x.amt - m })
            obtain ⟨xt, xd, xc, xy, xa, xh⟩ := x
            simp only [Pg.cells, PgBox] at d0 d1 d2 d3 d4 d5 HXN HPO HPB HXT HXC HPQ HPS hwA hxa
            have s1 := str_beq xt t
            have s2 := str_beq xc ec
            by_cases hq1 : xt = t
            rotate_left
            · rw [decide_eq_false hq1] at s1
              have HFS : Hid ((L.take (j + 1)).filterMap (cutC t ec m) = D ++ [⟨xt, xd, xc, xy, xa, xh⟩]) := Lib.hid (by rw [HFF, cutC, if_neg (fun h => hq1 h.1)])
              clear hq1 s2 HFF hb hp hbel hown hj
              go_wp2_with fail
              rw [← hwA, ← hbx]
              clear hwA hbx d0 d1 d2 d3 d4 d5
              refine Any.region_lit (fun
                | 0 => Any.val (.pointer (some ⟨bx, 0, none⟩))
                | 1 => Any.val (.string xt)
                | 2 => Any.val (.string t)
                | 3 => Any.val (.bool false)
                | 4 => Any.val (.bool false)
                | 5 => Any.idle
                | 6 => Any.idle
                | 7 => Any.idle
                | 8 => Any.idle
                | 9 => Any.idle
                | 10 => Any.idle
                | 11 => Any.idle
                | 12 => Any.idle
                | 13 => Any.val (.bool false)
                | _ => Any.idle) (by kernel_rfl) (by kernel_rfl) (by kernel_rfl) ?_ ?_ ?_
              · intro i _
                match i with
                | 0 => exact Any.lasts_val _
                | 1 => exact Any.lasts_val _
                | 2 => exact Any.lasts_val _
                | 3 => exact Any.lasts_val _
                | 4 => exact Any.lasts_val _
                | 5 => exact Any.lasts_idle
                | 6 => exact Any.lasts_idle
                | 7 => exact Any.lasts_idle
                | 8 => exact Any.lasts_idle
                | 9 => exact Any.lasts_idle
                | 10 => exact Any.lasts_idle
                | 11 => exact Any.lasts_idle
                | 12 => exact Any.lasts_idle
                | 13 => exact Any.lasts_val _
                | n + 14 => exact Any.lasts_idle
              · refine ⟨?_, ?_, ?_, ?_, ?_, ?_, ?_, ?_, ?_, ?_, ?_, ?_, ?_, ?_, trivial⟩
                · refine Any.owes_plain rfl fun ρ wo hs' hb hc' => ?_
                  have h15 : ρ (.tmp 15) = .pointer (some ⟨bx, 0, none⟩) := hs'.old' 15 (by kernel_rfl)
                  go_simp
                  exact Any.post_val hb rfl rfl
                · refine Any.owes_plain rfl fun ρ wo hs' hb hc' => ?_
                  have h61 : ρ (.tmp 61) = .pointer (some ⟨bx, 0, none⟩) := hs'.new' 61 0 (by kernel_rfl)
                  have c0 := HXT.out wo (below_undrew hb)
                  go_simp
                  exact Any.post_val hb rfl rfl
                · refine Any.owes_plain rfl fun ρ wo hs' hb hc' => ?_
                  have h1 : ρ (.tmp 1) = .string t := hs'.old' 1 (by kernel_rfl)
                  exact Any.ok_move (Any.post_val hb rfl h1)
                · refine Any.owes_plain rfl fun ρ wo hs' hb hc' => ?_
                  have h62 : ρ (.tmp 62) = .string xt := hs'.new' 62 1 (by kernel_rfl)
                  have h63 : ρ (.tmp 63) = .string t := hs'.new' 63 2 (by kernel_rfl)
                  go_simp
                  exact Any.post_val hb rfl rfl
                · refine Any.owes_plain rfl fun ρ wo hs' hb hc' => ?_
                  have h64 : ρ (.tmp 64) = .bool false := hs'.new' 64 3 (by kernel_rfl)
                  exact Any.ok_move (Any.post_val hb rfl h64)
                · exact Any.owes_off rfl rfl (by kernel_rfl) rfl (by decide) rfl
                · exact Any.owes_off rfl rfl (by kernel_rfl) rfl (by decide) rfl
                · exact Any.owes_off rfl rfl (by kernel_rfl) rfl (by decide) rfl
                · exact Any.owes_off rfl rfl (by kernel_rfl) rfl (by decide) rfl
                · exact Any.owes_off rfl rfl (by kernel_rfl) rfl (by decide) rfl
                · exact Any.owes_off rfl rfl (by kernel_rfl) rfl (by decide) rfl
                · exact Any.owes_off rfl rfl (by kernel_rfl) rfl (by decide) rfl
                · exact Any.owes_off rfl rfl (by kernel_rfl) rfl (by decide) rfl
                · refine Any.owes_plain rfl fun ρ wo hs' hb hc' => ?_
                  have h65 : ρ (.tmp 65) = .bool false := hs'.new' 65 4 (by kernel_rfl)
                  go_simp
                  exact Any.post_val hb rfl rfl
              intro vals w7 hb hk ha
              have h13 : vals 13 = .bool false := hk 13 (by kernel_rfl)
              have HB7 := Lib.hid hb
              clear hk ha hb
              simp only [Any.putAll]
              go_frame
              simp only [Nat.zero_add, Nat.reduceAdd]
              rw [h13]
              clear h13
              obtain ⟨z0, z1, z2, z3, z4, z5⟩ := HPB.out w7 _ (blk HB7.out (lt_blk HXN.out) HXN.out)
              have HB8 := Lib.hid (HBA.out.trans (HB7.out.mono HBA.out.size))
              have HO8 := Lib.hid (ownsRow_below HOA.out HB7.out)
              have HL : Hid (D.length + 1 ≤ maxLen ∧ (D.length + 1) * 72 ≤ 140737488355328 ∧ w5.heap.size ≤ w7.heap.size) := Lib.hid (by have := HLE.out; have := HB8.out.size; simp only [maxLen]; omega)
              go_wp2_with (first
                | (((with_reducible refine Any.wpl_push ?_ ?_ ?_ Try.underlying26 HI.out.1 HI.out.2.1 HI.out.2.2.1 HI.out.2.2.2 ?_ (by decide) ?_ (HPO.out) (HO8.out) HL.out.1 HL.out.2.1 HL.out.2.2 ?_); rfl; rfl; rfl; rfl; rfl; intro v9 w9 hown9 hgrow9 hwho9); have HO9 := Lib.hid hown9; have HG9 := Lib.hid hgrow9; clear hown9 hgrow9 hwho9)
                | fail)
              go_roundw
              case rel => exact ⟨j + 1, by have := HJL.out; omega, by go_num, by
                have := HO9.out
                rw [HFS.out]
                simpa [pgCells, Pg.row, Pg.cells] using this, HB8.out.grown HG9.out HB8.out.size (fun i hi => (HO8.out.lt i hi).1)⟩
              case measure => have := HJL.out; (simp [intOf]) <;> omega
            · rw [decide_eq_true hq1] at s1
              by_cases hq2 : xc = ec
              rotate_left
              · rw [decide_eq_false hq2] at s2
                have HFS : Hid ((L.take (j + 1)).filterMap (cutC t ec m) = D ++ [⟨xt, xd, xc, xy, xa, xh⟩]) := Lib.hid (by rw [HFF, cutC, if_neg (fun h => hq2 h.2)])
                clear hq1 hq2 HFF hb hp hbel hown hj
                go_wp2_with fail
                rw [← hwA, ← hbx]
                clear hwA hbx d0 d1 d2 d3 d4 d5
                refine Any.region_lit (fun
                  | 0 => Any.val (.pointer (some ⟨bx, 0, none⟩))
                  | 1 => Any.val (.string xt)
                  | 2 => Any.val (.string t)
                  | 3 => Any.val (.bool true)
                  | 4 => Any.val (.bool true)
                  | 5 => Any.val (.pointer (some ⟨bx, 2, none⟩))
                  | 6 => Any.val (.string xc)
                  | 7 => Any.val (.slice (some ⟨be, oe, none⟩) E.length ce)
                  | 8 => Any.val (.int .i64 (k : Int))
                  | 9 => Any.val (.pointer (some ⟨be, oe + k * 6, none⟩))
                  | 10 => Any.val (.pointer (some ⟨be, oe + k * 6 + 2, none⟩))
                  | 11 => Any.val (.string ec)
                  | 12 => Any.val (.bool false)
                  | 13 => Any.val (.bool false)
                  | _ => Any.idle) (by kernel_rfl) (by kernel_rfl) (by kernel_rfl) ?_ ?_ ?_
                · intro i _
                  match i with
                  | 0 => exact Any.lasts_val _
                  | 1 => exact Any.lasts_val _
                  | 2 => exact Any.lasts_val _
                  | 3 => exact Any.lasts_val _
                  | 4 => exact Any.lasts_val _
                  | 5 => exact Any.lasts_val _
                  | 6 => exact Any.lasts_val _
                  | 7 => exact Any.lasts_val _
                  | 8 => exact Any.lasts_val _
                  | 9 => exact Any.lasts_val _
                  | 10 => exact Any.lasts_val _
                  | 11 => exact Any.lasts_val _
                  | 12 => exact Any.lasts_val _
                  | 13 => exact Any.lasts_val _
                  | n + 14 => exact Any.lasts_idle
                · refine ⟨?_, ?_, ?_, ?_, ?_, ?_, ?_, ?_, ?_, ?_, ?_, ?_, ?_, ?_, trivial⟩
                  · refine Any.owes_plain rfl fun ρ wo hs' hb hc' => ?_
                    have h15 : ρ (.tmp 15) = .pointer (some ⟨bx, 0, none⟩) := hs'.old' 15 (by kernel_rfl)
                    go_simp
                    exact Any.post_val hb rfl rfl
                  · refine Any.owes_plain rfl fun ρ wo hs' hb hc' => ?_
                    have h61 : ρ (.tmp 61) = .pointer (some ⟨bx, 0, none⟩) := hs'.new' 61 0 (by kernel_rfl)
                    have c0 := HXT.out wo (below_undrew hb)
                    go_simp
                    exact Any.post_val hb rfl rfl
                  · refine Any.owes_plain rfl fun ρ wo hs' hb hc' => ?_
                    have h1 : ρ (.tmp 1) = .string t := hs'.old' 1 (by kernel_rfl)
                    exact Any.ok_move (Any.post_val hb rfl h1)
                  · refine Any.owes_plain rfl fun ρ wo hs' hb hc' => ?_
                    have h62 : ρ (.tmp 62) = .string xt := hs'.new' 62 1 (by kernel_rfl)
                    have h63 : ρ (.tmp 63) = .string t := hs'.new' 63 2 (by kernel_rfl)
                    go_simp
                    exact Any.post_val hb rfl rfl
                  · refine Any.owes_plain rfl fun ρ wo hs' hb hc' => ?_
                    have h64 : ρ (.tmp 64) = .bool true := hs'.new' 64 3 (by kernel_rfl)
                    exact Any.ok_move (Any.post_val hb rfl h64)
                  · refine Any.owes_on rfl rfl (by kernel_rfl) rfl fun ρ wo hs' hb hc' => ?_
                    have h15 : ρ (.tmp 15) = .pointer (some ⟨bx, 0, none⟩) := hs'.old' 15 (by kernel_rfl)
                    go_simp
                    exact Any.post_val hb rfl rfl
                  · refine Any.owes_on rfl rfl (by kernel_rfl) rfl fun ρ wo hs' hb hc' => ?_
                    have h66 : ρ (.tmp 66) = .pointer (some ⟨bx, 2, none⟩) := hs'.new' 66 5 (by kernel_rfl)
                    have c0 := HXC.out wo (below_undrew hb)
                    go_simp
                    exact Any.post_val hb rfl rfl
                  · refine Any.owes_on rfl rfl (by kernel_rfl) rfl fun ρ wo hs' hb hc' => ?_
                    have h9 : ρ (.tmp 9) = .slice (some ⟨be, oe, none⟩) E.length ce := hs'.old' 9 (by kernel_rfl)
                    exact Any.ok_move (Any.post_val hb rfl h9)
                  · refine Any.owes_on rfl rfl (by kernel_rfl) rfl fun ρ wo hs' hb hc' => ?_
                    have h11 : ρ (.tmp 11) = .int .i64 (k : Int) := hs'.old' 11 (by kernel_rfl)
                    exact Any.ok_move (Any.post_val hb rfl h11)
                  · refine Any.owes_on rfl rfl (by kernel_rfl) rfl fun ρ wo hs' hb hc' => ?_
                    have h68 : ρ (.tmp 68) = .slice (some ⟨be, oe, none⟩) E.length ce := hs'.new' 68 7 (by kernel_rfl)
                    have h69 : ρ (.tmp 69) = .int .i64 (k : Int) := hs'.new' 69 8 (by kernel_rfl)
                    go_simp
                    exact Any.post_val hb rfl rfl
                  · refine Any.owes_on rfl rfl (by kernel_rfl) rfl fun ρ wo hs' hb hc' => ?_
                    have h70 : ρ (.tmp 70) = .pointer (some ⟨be, oe + k * 6, none⟩) := hs'.new' 70 9 (by kernel_rfl)
                    go_simp
                    exact Any.post_val hb rfl rfl
                  · refine Any.owes_on rfl rfl (by kernel_rfl) rfl fun ρ wo hs' hb hc' => ?_
                    have h71 : ρ (.tmp 71) = .pointer (some ⟨be, oe + k * 6 + 2, none⟩) := hs'.new' 71 10 (by kernel_rfl)
                    have c0 := HEC.out wo (below_undrew hb)
                    go_simp
                    exact Any.post_val hb rfl rfl
                  · refine Any.owes_on rfl rfl (by kernel_rfl) rfl fun ρ wo hs' hb hc' => ?_
                    have h67 : ρ (.tmp 67) = .string xc := hs'.new' 67 6 (by kernel_rfl)
                    have h72 : ρ (.tmp 72) = .string ec := hs'.new' 72 11 (by kernel_rfl)
                    go_simp
                    exact Any.post_val hb rfl rfl
                  · refine Any.owes_plain rfl fun ρ wo hs' hb hc' => ?_
                    have h65 : ρ (.tmp 65) = .bool true := hs'.new' 65 4 (by kernel_rfl)
                    have h73 : ρ (.tmp 73) = .bool false := hs'.new' 73 12 (by kernel_rfl)
                    go_simp
                    exact Any.post_val hb rfl rfl
                intro vals w7 hb hk ha
                have h13 : vals 13 = .bool false := hk 13 (by kernel_rfl)
                have HB7 := Lib.hid hb
                clear hk ha hb
                simp only [Any.putAll]
                go_frame
                simp only [Nat.zero_add, Nat.reduceAdd]
                rw [h13]
                clear h13
                obtain ⟨z0, z1, z2, z3, z4, z5⟩ := HPB.out w7 _ (blk HB7.out (lt_blk HXN.out) HXN.out)
                have HB8 := Lib.hid (HBA.out.trans (HB7.out.mono HBA.out.size))
                have HO8 := Lib.hid (ownsRow_below HOA.out HB7.out)
                have HL : Hid (D.length + 1 ≤ maxLen ∧ (D.length + 1) * 72 ≤ 140737488355328 ∧ w5.heap.size ≤ w7.heap.size) := Lib.hid (by have := HLE.out; have := HB8.out.size; simp only [maxLen]; omega)
                go_wp2_with (first
                  | (((with_reducible refine Any.wpl_push ?_ ?_ ?_ Try.underlying26 HI.out.1 HI.out.2.1 HI.out.2.2.1 HI.out.2.2.2 ?_ (by decide) ?_ (HPO.out) (HO8.out) HL.out.1 HL.out.2.1 HL.out.2.2 ?_); rfl; rfl; rfl; rfl; rfl; intro v9 w9 hown9 hgrow9 hwho9); have HO9 := Lib.hid hown9; have HG9 := Lib.hid hgrow9; clear hown9 hgrow9 hwho9)
                  | fail)
                go_roundw
                case rel => exact ⟨j + 1, by have := HJL.out; omega, by go_num, by
                  have := HO9.out
                  rw [HFS.out]
                  simpa [pgCells, Pg.row, Pg.cells] using this, HB8.out.grown HG9.out HB8.out.size (fun i hi => (HO8.out.lt i hi).1)⟩
                case measure => have := HJL.out; (simp [intOf]) <;> omega
              · rw [decide_eq_true hq2] at s2
                have HFZ : Hid (xa - m = 0 → (L.take (j + 1)).filterMap (cutC t ec m) = D) := Lib.hid (fun h => by rw [HFF, cutC, if_pos ⟨hq1, hq2⟩, if_pos h])
                have HFN : Hid (¬ xa - m = 0 → (L.take (j + 1)).filterMap (cutC t ec m) = D ++ [⟨xt, xd, xc, xy, xa - m, xh⟩]) := Lib.hid (fun h => by rw [HFF, cutC, if_pos ⟨hq1, hq2⟩, if_neg h])
                clear hq1 hq2 HFF hb hp hbel hown hj
                go_wp2_with fail
                rw [← hwA, ← hbx]
                clear hwA hbx d0 d1 d2 d3 d4 d5
                refine Any.region_lit (fun
                  | 0 => Any.val (.pointer (some ⟨bx, 0, none⟩))
                  | 1 => Any.val (.string xt)
                  | 2 => Any.val (.string t)
                  | 3 => Any.val (.bool true)
                  | 4 => Any.val (.bool true)
                  | 5 => Any.val (.pointer (some ⟨bx, 2, none⟩))
                  | 6 => Any.val (.string xc)
                  | 7 => Any.val (.slice (some ⟨be, oe, none⟩) E.length ce)
                  | 8 => Any.val (.int .i64 (k : Int))
                  | 9 => Any.val (.pointer (some ⟨be, oe + k * 6, none⟩))
                  | 10 => Any.val (.pointer (some ⟨be, oe + k * 6 + 2, none⟩))
                  | 11 => Any.val (.string ec)
                  | 12 => Any.val (.bool true)
                  | 13 => Any.val (.bool true)
                  | _ => Any.idle) (by kernel_rfl) (by kernel_rfl) (by kernel_rfl) ?_ ?_ ?_
                · intro i _
                  match i with
                  | 0 => exact Any.lasts_val _
                  | 1 => exact Any.lasts_val _
                  | 2 => exact Any.lasts_val _
                  | 3 => exact Any.lasts_val _
                  | 4 => exact Any.lasts_val _
                  | 5 => exact Any.lasts_val _
                  | 6 => exact Any.lasts_val _
                  | 7 => exact Any.lasts_val _
                  | 8 => exact Any.lasts_val _
                  | 9 => exact Any.lasts_val _
                  | 10 => exact Any.lasts_val _
                  | 11 => exact Any.lasts_val _
                  | 12 => exact Any.lasts_val _
                  | 13 => exact Any.lasts_val _
                  | n + 14 => exact Any.lasts_idle
                · refine ⟨?_, ?_, ?_, ?_, ?_, ?_, ?_, ?_, ?_, ?_, ?_, ?_, ?_, ?_, trivial⟩
                  · refine Any.owes_plain rfl fun ρ wo hs' hb hc' => ?_
                    have h15 : ρ (.tmp 15) = .pointer (some ⟨bx, 0, none⟩) := hs'.old' 15 (by kernel_rfl)
                    go_simp
                    exact Any.post_val hb rfl rfl
                  · refine Any.owes_plain rfl fun ρ wo hs' hb hc' => ?_
                    have h61 : ρ (.tmp 61) = .pointer (some ⟨bx, 0, none⟩) := hs'.new' 61 0 (by kernel_rfl)
                    have c0 := HXT.out wo (below_undrew hb)
                    go_simp
                    exact Any.post_val hb rfl rfl
                  · refine Any.owes_plain rfl fun ρ wo hs' hb hc' => ?_
                    have h1 : ρ (.tmp 1) = .string t := hs'.old' 1 (by kernel_rfl)
                    exact Any.ok_move (Any.post_val hb rfl h1)
                  · refine Any.owes_plain rfl fun ρ wo hs' hb hc' => ?_
                    have h62 : ρ (.tmp 62) = .string xt := hs'.new' 62 1 (by kernel_rfl)
                    have h63 : ρ (.tmp 63) = .string t := hs'.new' 63 2 (by kernel_rfl)
                    go_simp
                    exact Any.post_val hb rfl rfl
                  · refine Any.owes_plain rfl fun ρ wo hs' hb hc' => ?_
                    have h64 : ρ (.tmp 64) = .bool true := hs'.new' 64 3 (by kernel_rfl)
                    exact Any.ok_move (Any.post_val hb rfl h64)
                  · refine Any.owes_on rfl rfl (by kernel_rfl) rfl fun ρ wo hs' hb hc' => ?_
                    have h15 : ρ (.tmp 15) = .pointer (some ⟨bx, 0, none⟩) := hs'.old' 15 (by kernel_rfl)
                    go_simp
                    exact Any.post_val hb rfl rfl
                  · refine Any.owes_on rfl rfl (by kernel_rfl) rfl fun ρ wo hs' hb hc' => ?_
                    have h66 : ρ (.tmp 66) = .pointer (some ⟨bx, 2, none⟩) := hs'.new' 66 5 (by kernel_rfl)
                    have c0 := HXC.out wo (below_undrew hb)
                    go_simp
                    exact Any.post_val hb rfl rfl
                  · refine Any.owes_on rfl rfl (by kernel_rfl) rfl fun ρ wo hs' hb hc' => ?_
                    have h9 : ρ (.tmp 9) = .slice (some ⟨be, oe, none⟩) E.length ce := hs'.old' 9 (by kernel_rfl)
                    exact Any.ok_move (Any.post_val hb rfl h9)
                  · refine Any.owes_on rfl rfl (by kernel_rfl) rfl fun ρ wo hs' hb hc' => ?_
                    have h11 : ρ (.tmp 11) = .int .i64 (k : Int) := hs'.old' 11 (by kernel_rfl)
                    exact Any.ok_move (Any.post_val hb rfl h11)
                  · refine Any.owes_on rfl rfl (by kernel_rfl) rfl fun ρ wo hs' hb hc' => ?_
                    have h68 : ρ (.tmp 68) = .slice (some ⟨be, oe, none⟩) E.length ce := hs'.new' 68 7 (by kernel_rfl)
                    have h69 : ρ (.tmp 69) = .int .i64 (k : Int) := hs'.new' 69 8 (by kernel_rfl)
                    go_simp
                    exact Any.post_val hb rfl rfl
                  · refine Any.owes_on rfl rfl (by kernel_rfl) rfl fun ρ wo hs' hb hc' => ?_
                    have h70 : ρ (.tmp 70) = .pointer (some ⟨be, oe + k * 6, none⟩) := hs'.new' 70 9 (by kernel_rfl)
                    go_simp
                    exact Any.post_val hb rfl rfl
                  · refine Any.owes_on rfl rfl (by kernel_rfl) rfl fun ρ wo hs' hb hc' => ?_
                    have h71 : ρ (.tmp 71) = .pointer (some ⟨be, oe + k * 6 + 2, none⟩) := hs'.new' 71 10 (by kernel_rfl)
                    have c0 := HEC.out wo (below_undrew hb)
                    go_simp
                    exact Any.post_val hb rfl rfl
                  · refine Any.owes_on rfl rfl (by kernel_rfl) rfl fun ρ wo hs' hb hc' => ?_
                    have h67 : ρ (.tmp 67) = .string xc := hs'.new' 67 6 (by kernel_rfl)
                    have h72 : ρ (.tmp 72) = .string ec := hs'.new' 72 11 (by kernel_rfl)
                    go_simp
                    exact Any.post_val hb rfl rfl
                  · refine Any.owes_plain rfl fun ρ wo hs' hb hc' => ?_
                    have h65 : ρ (.tmp 65) = .bool true := hs'.new' 65 4 (by kernel_rfl)
                    have h73 : ρ (.tmp 73) = .bool true := hs'.new' 73 12 (by kernel_rfl)
                    go_simp
                    exact Any.post_val hb rfl rfl
                intro vals w7 hb hk ha
                have h13 : vals 13 = .bool true := hk 13 (by kernel_rfl)
                have HB7 := Lib.hid hb
                clear hk ha hb
                simp only [Any.putAll]
                go_frame
                simp only [Nat.zero_add, Nat.reduceAdd]
                rw [h13]
                clear h13
                obtain ⟨z0, z1, z2, z3, z4, z5⟩ := HPB.out w7 _ (blk HB7.out (lt_blk HXN.out) HXN.out)
                have HB8 := Lib.hid (HBA.out.trans (HB7.out.mono HBA.out.size))
                have HO8 := Lib.hid (ownsRow_below HOA.out HB7.out)
                have f4 : w7.frozen? ⟨bx, 4, none⟩ = false := free_blk (blk HB7.out (lt_blk HXN.out) HXN.out) 4
                have hset : (w7.setCell ⟨bx, 4, none⟩ (.int .i64 (xa - m))).heap[bx]? = some (.cells #[.string xt, .string xd, .string xc, .int .i64 xy, .int .i64 (xa - m), .bool xh] 37 (0, 0)) := by
                  simp [World.setCell, Array.getElem?_modify, blk HB7.out (lt_blk HXN.out) HXN.out]
                obtain ⟨y0, y1, y2, y3, y4, y5⟩ := HPQ.out _ _ hset
                have HKS := Lib.hid (Keep.of_grown (Ord.set_grown w7 bx 4 (.int .i64 (xa - m))))
                have HO8 := Lib.hid (ownsRow_keep HO8.out HKS.out (fun g hg e => by have := HNB.out g hg; have := Option.some.inj e; omega))
                have HB8 := Lib.hid (HB8.out.setCell (p := ⟨bx, 4, none⟩) HBXB.out (.int .i64 (xa - m)))
                by_cases hz : xa - m = 0
                · have tz : (xa - m == 0) = true := by simp [hz]
                  have HFS := Lib.hid (HFZ.out hz)
                  clear hz
                  go_wp2_with fail
                  go_roundw
                  case rel => exact ⟨j + 1, by have := HJL.out; omega, by go_num, by rw [HFS.out]; exact HO8.out, HB8.out⟩
                  case measure => have := HJL.out; (simp [intOf]) <;> omega
                · have tz : (xa - m == 0) = false := by simp [hz]
                  have HFS := Lib.hid (HFN.out hz)
                  clear hz hset
                  go_upto_region 20 with fail
                  generalize w7.setCell ⟨bx, 4, none⟩ (.int .i64 (xa - m)) = w8 at *
                  have HL : Hid (D.length + 1 ≤ maxLen ∧ (D.length + 1) * 72 ≤ 140737488355328 ∧ w5.heap.size ≤ w8.heap.size) := Lib.hid (by have := HLE.out; have := HB8.out.size; simp only [maxLen]; omega)
                  go_wp2_with (first
                    | (((with_reducible refine Any.wpl_push ?_ ?_ ?_ Try.underlying26 HI.out.1 HI.out.2.1 HI.out.2.2.1 HI.out.2.2.2 ?_ (by decide) ?_ (HPS.out) (HO8.out) HL.out.1 HL.out.2.1 HL.out.2.2 ?_); rfl; rfl; rfl; rfl; rfl; intro v9 w9 hown9 hgrow9 hwho9); have HO9 := Lib.hid hown9; have HG9 := Lib.hid hgrow9; clear hown9 hgrow9 hwho9)
                    | fail)
                  go_roundw
                  case rel => exact ⟨j + 1, by have := HJL.out; omega, by go_num, by
                    have := HO9.out
                    rw [HFS.out]
                    simpa [pgCells, Pg.row, Pg.cells] using this, HB8.out.grown HG9.out HB8.out.size (fun i hi => (HO8.out.lt i hi).1)⟩
                  case measure => have := HJL.out; (simp [intOf]) <;> omega
          · rw [List.take_of_length_le (by omega)] at hown
            have HOL := Lib.hid hown
            have HBL := Lib.hid hbel
            clear hown hbel hj
            go_wp2_with fail
            go_roundw
            case rel => exact ⟨k + 1, by omega, by go_num, by simp [HSS.out], by
              rw [HES.out, entCells_snoc, List.length_append]
              exact ownsRow_below HO5.out HBL.out, by rw [HES.out, List.length_append]; simp; omega, by
              rw [HES.out, HCS.out]
              exact own_pgs HOL.out rfl, by
              refine .inl fun b hb hx => ?_
              have h1 := (HOL.out.lt b hb).1
              have h2 := (HO5.out.lt b hx).2
              omega, by
              refine .inl fun b hb hx => ?_
              have h1 := (HOL.out.lt b hb).1
              have h2 := HFL.out b hx
              have h3 := HB2.out.size
              have h4 := HB5.out.size
              omega, HB5.out.trans (HBL.out.mono HB5.out.size)⟩
            case measure => (simp [intOf]) <;> omega
      · obtain rfl : m = ea := by omega
        have ts : decide (S < m) = false := decide_eq_false hse
        have hm0 : ¬ m = 0 := by omega
        clear hse
        have hmb : 0 ≤ m ∧ m ≤ 1099511627776 := by omega
        have HES : Hid (payE (E.take (k + 1)) s = e ++ [(ec, m)]) := Lib.hid (by rw [HES]; exact if_neg hm0)
        have tm0 : (m == 0) = false := by simp [hm0]
        have HL2 : Hid (e.length + 1 ≤ maxLen ∧ (e.length + 1) * 40 ≤ 140737488355328 ∧ w2.heap.size ≤ wr.heap.size) := Lib.hid (by have := HBEL.out.size; simp only [maxLen]; omega)
        have HCS := Lib.hid (HCS.out m)
        clear hm hm0
        go_wp2_with (first
          | (((with_reducible refine Any.wpl_push ?_ ?_ ?_ Try.underlying30 HJ.out.1 HJ.out.2.1 HJ.out.2.2.1 HJ.out.2.2.2 ?_ (by decide) ?_ (ent_one ec m) (HOWN.out) HL2.out.1 HL2.out.2.1 HL2.out.2.2 ?_); rfl; rfl; rfl; rfl; rfl; intro v5 w5 hown5 hgrow5 hwho5); have HO5 := Lib.hid hown5; have HG5 := Lib.hid hgrow5; clear hown5 hgrow5 hwho5)
          | fail)
        have HB5 : Hid (Below w2.heap.size w2 w5) := Lib.hid (HBEL.out.grown HG5.out HBEL.out.size (fun i hi => (HOWN.out.lt i hi).1))
        have HSL5 := Lib.hid (sl_push HSL.out HG5.out HOFF.out)
        generalize paidL l t e = L at *
        obtain ⟨al, cl, rfl⟩ : ∃ a c, u0 = .slice a L.length c := by simpa using HSL5.out.shape
        have hll := HLL.out
        clear d2 d4 tm0 hx hsr tn
        go_loopw [13, 14, 15] (fun lf i _ wr => ∃ j : Nat, j ≤ L.length ∧ i = .int .i64 j ∧ wr.ownsRow w5.heap.size 37 6 lf ((L.take j).filterMap (cutC t ec m)).length (pgCells ((L.take j).filterMap (cutC t ec m))) ∧ Below w5.heap.size w5 wr) (fun _ i _ _ => L.length - (intOf i).toNat)
        case atStart => exact ⟨0, Nat.zero_le _, rfl, own_empty (Nat.le_refl _), one_below _ _⟩
        case round =>
          obtain ⟨j, hj, rfl, hown, hbel⟩ := hrel
          by_cases hlj : j < L.length
          · obtain ⟨b, off, rfl, hb, hp⟩ := pg_at HSL5.out hlj
            obtain ⟨d0, d1, d2, d3, d4, d5⟩ := hp.below hb hbel
            have HFF := filterMap_next hlj (cutC t ec m)
            have hxa := HLA.out L[j] (List.getElem_mem hlj)
            have HLE : Hid (((L.take j).filterMap (cutC t ec m)).length ≤ 4000) := Lib.hid (by
              have h1 := List.length_filterMap_le (cutC t ec m) (L.take j)
              have h2 := List.length_take_le j L
              omega)
            have HJL := Lib.hid hlj
            have tj : ((j : Nat) : Int) < (L.length : Int) := by omega
            generalize (L.take j).filterMap (cutC t ec m) = D at *
            generalize L[j] = x at *
            obtain ⟨bx, hbx⟩ : ∃ b, b = wr.heap.size := ⟨_, rfl⟩
            obtain ⟨wA, hwA⟩ : ∃ W, W = wr.alloc (.cells x.cells 37) := ⟨_, rfl⟩
            have HXN : Hid (wA.heap[bx]? = some (.cells x.cells 37 (0, 0))) := Lib.hid (by rw [hwA, hbx]; exact heap_alloc_new _ _)
            have HBA : Hid (Below w5.heap.size w5 wA) := Lib.hid (by rw [hwA]; exact hbel.alloc hbel.size _)
            have HOA : Hid (wA.ownsRow w5.heap.size 37 6 u13 D.length (pgCells D)) := Lib.hid (by rw [hwA]; exact ownsRow_below hown (one_below _ _))
            have HNB : Hid (∀ g, (u13).ownBlock = some g → g ≠ bx) := Lib.hid (fun g hg => by have h1 := (hown.lt g hg).2; omega)
            have HBXB : Hid (w5.heap.size ≤ bx) := Lib.hid (by rw [hbx]; exact hbel.size)
            have HPO := Lib.hid (pg_one x)
            have HPB := Lib.hid (fun (W : World) (b : Nat) (h : W.heap[b]? = some (.cells x.cells 37 (0, 0))) => pgBox_of h)
            have HXT := Lib.hid (fun W (hW : Below wA.heap.size wA W) => (pgBox_of (blk hW (lt_blk HXN.out) HXN.out)).1)
            have HXC := Lib.hid (fun W (hW : Below wA.heap.size wA W) => (pgBox_of (blk hW (lt_blk HXN.out) HXN.out)).2.2.1)
            have HEC := Lib.hid (fun W (hW : Below wA.heap.size wA W) => HEC.out W (HB5.out.trans ((HBA.out.trans (hW.mono HBA.out.size)).mono HB5.out.size)))
            have HPQ := Lib.hid (fun (W : World) (b : Nat) (h : W.heap[b]? = some (.cells (Pg.cells { x with amt := x.amt - m }) 37 (0, 0))) => pgBox_of h)
            have HPS := Lib.hid (pg_one { x with amt := x.amt - m })
            obtain ⟨xt, xd, xc, xy, xa, xh⟩ := x
            simp only [Pg.cells, PgBox] at d0 d1 d2 d3 d4 d5 HXN HPO HPB HXT HXC HPQ HPS hwA hxa
            have s1 := str_beq xt t
            have s2 := str_beq xc ec
            by_cases hq1 : xt = t
            rotate_left
            · rw [decide_eq_false hq1] at s1
              have HFS : Hid ((L.take (j + 1)).filterMap (cutC t ec m) = D ++ [⟨xt, xd, xc, xy, xa, xh⟩]) := Lib.hid (by rw [HFF, cutC, if_neg (fun h => hq1 h.1)])
              clear hq1 s2 HFF hb hp hbel hown hj
              go_wp2_with fail
              rw [← hwA, ← hbx]
              clear hwA hbx d0 d1 d2 d3 d4 d5
              refine Any.region_lit (fun
                | 0 => Any.val (.pointer (some ⟨bx, 0, none⟩))
                | 1 => Any.val (.string xt)
                | 2 => Any.val (.string t)
                | 3 => Any.val (.bool false)
                | 4 => Any.val (.bool false)
                | 5 => Any.idle
                | 6 => Any.idle
                | 7 => Any.idle
                | 8 => Any.idle
                | 9 => Any.idle
                | 10 => Any.idle
                | 11 => Any.idle
                | 12 => Any.idle
                | 13 => Any.val (.bool false)
                | _ => Any.idle) (by kernel_rfl) (by kernel_rfl) (by kernel_rfl) ?_ ?_ ?_
              · intro i _
                match i with
                | 0 => exact Any.lasts_val _
                | 1 => exact Any.lasts_val _
                | 2 => exact Any.lasts_val _
                | 3 => exact Any.lasts_val _
                | 4 => exact Any.lasts_val _
                | 5 => exact Any.lasts_idle
                | 6 => exact Any.lasts_idle
                | 7 => exact Any.lasts_idle
                | 8 => exact Any.lasts_idle
                | 9 => exact Any.lasts_idle
                | 10 => exact Any.lasts_idle
                | 11 => exact Any.lasts_idle
                | 12 => exact Any.lasts_idle
                | 13 => exact Any.lasts_val _
                | n + 14 => exact Any.lasts_idle
              · refine ⟨?_, ?_, ?_, ?_, ?_, ?_, ?_, ?_, ?_, ?_, ?_, ?_, ?_, ?_, trivial⟩
                · refine Any.owes_plain rfl fun ρ wo hs' hb hc' => ?_
                  have h15 : ρ (.tmp 15) = .pointer (some ⟨bx, 0, none⟩) := hs'.old' 15 (by kernel_rfl)
                  go_simp
                  exact Any.post_val hb rfl rfl
                · refine Any.owes_plain rfl fun ρ wo hs' hb hc' => ?_
                  have h61 : ρ (.tmp 61) = .pointer (some ⟨bx, 0, none⟩) := hs'.new' 61 0 (by kernel_rfl)
                  have c0 := HXT.out wo (below_undrew hb)
                  go_simp
                  exact Any.post_val hb rfl rfl
                · refine Any.owes_plain rfl fun ρ wo hs' hb hc' => ?_
                  have h1 : ρ (.tmp 1) = .string t := hs'.old' 1 (by kernel_rfl)
                  exact Any.ok_move (Any.post_val hb rfl h1)
                · refine Any.owes_plain rfl fun ρ wo hs' hb hc' => ?_
                  have h62 : ρ (.tmp 62) = .string xt := hs'.new' 62 1 (by kernel_rfl)
                  have h63 : ρ (.tmp 63) = .string t := hs'.new' 63 2 (by kernel_rfl)
                  go_simp
                  exact Any.post_val hb rfl rfl
                · refine Any.owes_plain rfl fun ρ wo hs' hb hc' => ?_
                  have h64 : ρ (.tmp 64) = .bool false := hs'.new' 64 3 (by kernel_rfl)
                  exact Any.ok_move (Any.post_val hb rfl h64)
                · exact Any.owes_off rfl rfl (by kernel_rfl) rfl (by decide) rfl
                · exact Any.owes_off rfl rfl (by kernel_rfl) rfl (by decide) rfl
                · exact Any.owes_off rfl rfl (by kernel_rfl) rfl (by decide) rfl
                · exact Any.owes_off rfl rfl (by kernel_rfl) rfl (by decide) rfl
                · exact Any.owes_off rfl rfl (by kernel_rfl) rfl (by decide) rfl
                · exact Any.owes_off rfl rfl (by kernel_rfl) rfl (by decide) rfl
                · exact Any.owes_off rfl rfl (by kernel_rfl) rfl (by decide) rfl
                · exact Any.owes_off rfl rfl (by kernel_rfl) rfl (by decide) rfl
                · refine Any.owes_plain rfl fun ρ wo hs' hb hc' => ?_
                  have h65 : ρ (.tmp 65) = .bool false := hs'.new' 65 4 (by kernel_rfl)
                  go_simp
                  exact Any.post_val hb rfl rfl
              intro vals w7 hb hk ha
              have h13 : vals 13 = .bool false := hk 13 (by kernel_rfl)
              have HB7 := Lib.hid hb
              clear hk ha hb
              simp only [Any.putAll]
              go_frame
              simp only [Nat.zero_add, Nat.reduceAdd]
              rw [h13]
              clear h13
              obtain ⟨z0, z1, z2, z3, z4, z5⟩ := HPB.out w7 _ (blk HB7.out (lt_blk HXN.out) HXN.out)
              have HB8 := Lib.hid (HBA.out.trans (HB7.out.mono HBA.out.size))
              have HO8 := Lib.hid (ownsRow_below HOA.out HB7.out)
              have HL : Hid (D.length + 1 ≤ maxLen ∧ (D.length + 1) * 72 ≤ 140737488355328 ∧ w5.heap.size ≤ w7.heap.size) := Lib.hid (by have := HLE.out; have := HB8.out.size; simp only [maxLen]; omega)
              go_wp2_with (first
                | (((with_reducible refine Any.wpl_push ?_ ?_ ?_ Try.underlying26 HI.out.1 HI.out.2.1 HI.out.2.2.1 HI.out.2.2.2 ?_ (by decide) ?_ (HPO.out) (HO8.out) HL.out.1 HL.out.2.1 HL.out.2.2 ?_); rfl; rfl; rfl; rfl; rfl; intro v9 w9 hown9 hgrow9 hwho9); have HO9 := Lib.hid hown9; have HG9 := Lib.hid hgrow9; clear hown9 hgrow9 hwho9)
                | fail)
              go_roundw
              case rel => exact ⟨j + 1, by have := HJL.out; omega, by go_num, by
                have := HO9.out
                rw [HFS.out]
                simpa [pgCells, Pg.row, Pg.cells] using this, HB8.out.grown HG9.out HB8.out.size (fun i hi => (HO8.out.lt i hi).1)⟩
              case measure => have := HJL.out; (simp [intOf]) <;> omega
            · rw [decide_eq_true hq1] at s1
              by_cases hq2 : xc = ec
              rotate_left
              · rw [decide_eq_false hq2] at s2
                have HFS : Hid ((L.take (j + 1)).filterMap (cutC t ec m) = D ++ [⟨xt, xd, xc, xy, xa, xh⟩]) := Lib.hid (by rw [HFF, cutC, if_neg (fun h => hq2 h.2)])
                clear hq1 hq2 HFF hb hp hbel hown hj
                go_wp2_with fail
                rw [← hwA, ← hbx]
                clear hwA hbx d0 d1 d2 d3 d4 d5
                refine Any.region_lit (fun
                  | 0 => Any.val (.pointer (some ⟨bx, 0, none⟩))
                  | 1 => Any.val (.string xt)
                  | 2 => Any.val (.string t)
                  | 3 => Any.val (.bool true)
                  | 4 => Any.val (.bool true)
                  | 5 => Any.val (.pointer (some ⟨bx, 2, none⟩))
                  | 6 => Any.val (.string xc)
                  | 7 => Any.val (.slice (some ⟨be, oe, none⟩) E.length ce)
                  | 8 => Any.val (.int .i64 (k : Int))
                  | 9 => Any.val (.pointer (some ⟨be, oe + k * 6, none⟩))
                  | 10 => Any.val (.pointer (some ⟨be, oe + k * 6 + 2, none⟩))
                  | 11 => Any.val (.string ec)
                  | 12 => Any.val (.bool false)
                  | 13 => Any.val (.bool false)
                  | _ => Any.idle) (by kernel_rfl) (by kernel_rfl) (by kernel_rfl) ?_ ?_ ?_
                · intro i _
                  match i with
                  | 0 => exact Any.lasts_val _
                  | 1 => exact Any.lasts_val _
                  | 2 => exact Any.lasts_val _
                  | 3 => exact Any.lasts_val _
                  | 4 => exact Any.lasts_val _
                  | 5 => exact Any.lasts_val _
                  | 6 => exact Any.lasts_val _
                  | 7 => exact Any.lasts_val _
                  | 8 => exact Any.lasts_val _
                  | 9 => exact Any.lasts_val _
                  | 10 => exact Any.lasts_val _
                  | 11 => exact Any.lasts_val _
                  | 12 => exact Any.lasts_val _
                  | 13 => exact Any.lasts_val _
                  | n + 14 => exact Any.lasts_idle
                · refine ⟨?_, ?_, ?_, ?_, ?_, ?_, ?_, ?_, ?_, ?_, ?_, ?_, ?_, ?_, trivial⟩
                  · refine Any.owes_plain rfl fun ρ wo hs' hb hc' => ?_
                    have h15 : ρ (.tmp 15) = .pointer (some ⟨bx, 0, none⟩) := hs'.old' 15 (by kernel_rfl)
                    go_simp
                    exact Any.post_val hb rfl rfl
                  · refine Any.owes_plain rfl fun ρ wo hs' hb hc' => ?_
                    have h61 : ρ (.tmp 61) = .pointer (some ⟨bx, 0, none⟩) := hs'.new' 61 0 (by kernel_rfl)
                    have c0 := HXT.out wo (below_undrew hb)
                    go_simp
                    exact Any.post_val hb rfl rfl
                  · refine Any.owes_plain rfl fun ρ wo hs' hb hc' => ?_
                    have h1 : ρ (.tmp 1) = .string t := hs'.old' 1 (by kernel_rfl)
                    exact Any.ok_move (Any.post_val hb rfl h1)
                  · refine Any.owes_plain rfl fun ρ wo hs' hb hc' => ?_
                    have h62 : ρ (.tmp 62) = .string xt := hs'.new' 62 1 (by kernel_rfl)
                    have h63 : ρ (.tmp 63) = .string t := hs'.new' 63 2 (by kernel_rfl)
                    go_simp
                    exact Any.post_val hb rfl rfl
                  · refine Any.owes_plain rfl fun ρ wo hs' hb hc' => ?_
                    have h64 : ρ (.tmp 64) = .bool true := hs'.new' 64 3 (by kernel_rfl)
                    exact Any.ok_move (Any.post_val hb rfl h64)
                  · refine Any.owes_on rfl rfl (by kernel_rfl) rfl fun ρ wo hs' hb hc' => ?_
                    have h15 : ρ (.tmp 15) = .pointer (some ⟨bx, 0, none⟩) := hs'.old' 15 (by kernel_rfl)
                    go_simp
                    exact Any.post_val hb rfl rfl
                  · refine Any.owes_on rfl rfl (by kernel_rfl) rfl fun ρ wo hs' hb hc' => ?_
                    have h66 : ρ (.tmp 66) = .pointer (some ⟨bx, 2, none⟩) := hs'.new' 66 5 (by kernel_rfl)
                    have c0 := HXC.out wo (below_undrew hb)
                    go_simp
                    exact Any.post_val hb rfl rfl
                  · refine Any.owes_on rfl rfl (by kernel_rfl) rfl fun ρ wo hs' hb hc' => ?_
                    have h9 : ρ (.tmp 9) = .slice (some ⟨be, oe, none⟩) E.length ce := hs'.old' 9 (by kernel_rfl)
                    exact Any.ok_move (Any.post_val hb rfl h9)
                  · refine Any.owes_on rfl rfl (by kernel_rfl) rfl fun ρ wo hs' hb hc' => ?_
                    have h11 : ρ (.tmp 11) = .int .i64 (k : Int) := hs'.old' 11 (by kernel_rfl)
                    exact Any.ok_move (Any.post_val hb rfl h11)
                  · refine Any.owes_on rfl rfl (by kernel_rfl) rfl fun ρ wo hs' hb hc' => ?_
                    have h68 : ρ (.tmp 68) = .slice (some ⟨be, oe, none⟩) E.length ce := hs'.new' 68 7 (by kernel_rfl)
                    have h69 : ρ (.tmp 69) = .int .i64 (k : Int) := hs'.new' 69 8 (by kernel_rfl)
                    go_simp
                    exact Any.post_val hb rfl rfl
                  · refine Any.owes_on rfl rfl (by kernel_rfl) rfl fun ρ wo hs' hb hc' => ?_
                    have h70 : ρ (.tmp 70) = .pointer (some ⟨be, oe + k * 6, none⟩) := hs'.new' 70 9 (by kernel_rfl)
                    go_simp
                    exact Any.post_val hb rfl rfl
                  · refine Any.owes_on rfl rfl (by kernel_rfl) rfl fun ρ wo hs' hb hc' => ?_
                    have h71 : ρ (.tmp 71) = .pointer (some ⟨be, oe + k * 6 + 2, none⟩) := hs'.new' 71 10 (by kernel_rfl)
                    have c0 := HEC.out wo (below_undrew hb)
                    go_simp
                    exact Any.post_val hb rfl rfl
                  · refine Any.owes_on rfl rfl (by kernel_rfl) rfl fun ρ wo hs' hb hc' => ?_
                    have h67 : ρ (.tmp 67) = .string xc := hs'.new' 67 6 (by kernel_rfl)
                    have h72 : ρ (.tmp 72) = .string ec := hs'.new' 72 11 (by kernel_rfl)
                    go_simp
                    exact Any.post_val hb rfl rfl
                  · refine Any.owes_plain rfl fun ρ wo hs' hb hc' => ?_
                    have h65 : ρ (.tmp 65) = .bool true := hs'.new' 65 4 (by kernel_rfl)
                    have h73 : ρ (.tmp 73) = .bool false := hs'.new' 73 12 (by kernel_rfl)
                    go_simp
                    exact Any.post_val hb rfl rfl
                intro vals w7 hb hk ha
                have h13 : vals 13 = .bool false := hk 13 (by kernel_rfl)
                have HB7 := Lib.hid hb
                clear hk ha hb
                simp only [Any.putAll]
                go_frame
                simp only [Nat.zero_add, Nat.reduceAdd]
                rw [h13]
                clear h13
                obtain ⟨z0, z1, z2, z3, z4, z5⟩ := HPB.out w7 _ (blk HB7.out (lt_blk HXN.out) HXN.out)
                have HB8 := Lib.hid (HBA.out.trans (HB7.out.mono HBA.out.size))
                have HO8 := Lib.hid (ownsRow_below HOA.out HB7.out)
                have HL : Hid (D.length + 1 ≤ maxLen ∧ (D.length + 1) * 72 ≤ 140737488355328 ∧ w5.heap.size ≤ w7.heap.size) := Lib.hid (by have := HLE.out; have := HB8.out.size; simp only [maxLen]; omega)
                go_wp2_with (first
                  | (((with_reducible refine Any.wpl_push ?_ ?_ ?_ Try.underlying26 HI.out.1 HI.out.2.1 HI.out.2.2.1 HI.out.2.2.2 ?_ (by decide) ?_ (HPO.out) (HO8.out) HL.out.1 HL.out.2.1 HL.out.2.2 ?_); rfl; rfl; rfl; rfl; rfl; intro v9 w9 hown9 hgrow9 hwho9); have HO9 := Lib.hid hown9; have HG9 := Lib.hid hgrow9; clear hown9 hgrow9 hwho9)
                  | fail)
                go_roundw
                case rel => exact ⟨j + 1, by have := HJL.out; omega, by go_num, by
                  have := HO9.out
                  rw [HFS.out]
                  simpa [pgCells, Pg.row, Pg.cells] using this, HB8.out.grown HG9.out HB8.out.size (fun i hi => (HO8.out.lt i hi).1)⟩
                case measure => have := HJL.out; (simp [intOf]) <;> omega
              · rw [decide_eq_true hq2] at s2
                have HFZ : Hid (xa - m = 0 → (L.take (j + 1)).filterMap (cutC t ec m) = D) := Lib.hid (fun h => by rw [HFF, cutC, if_pos ⟨hq1, hq2⟩, if_pos h])
                have HFN : Hid (¬ xa - m = 0 → (L.take (j + 1)).filterMap (cutC t ec m) = D ++ [⟨xt, xd, xc, xy, xa - m, xh⟩]) := Lib.hid (fun h => by rw [HFF, cutC, if_pos ⟨hq1, hq2⟩, if_neg h])
                clear hq1 hq2 HFF hb hp hbel hown hj
                go_wp2_with fail
                rw [← hwA, ← hbx]
                clear hwA hbx d0 d1 d2 d3 d4 d5
                refine Any.region_lit (fun
                  | 0 => Any.val (.pointer (some ⟨bx, 0, none⟩))
                  | 1 => Any.val (.string xt)
                  | 2 => Any.val (.string t)
                  | 3 => Any.val (.bool true)
                  | 4 => Any.val (.bool true)
                  | 5 => Any.val (.pointer (some ⟨bx, 2, none⟩))
                  | 6 => Any.val (.string xc)
                  | 7 => Any.val (.slice (some ⟨be, oe, none⟩) E.length ce)
                  | 8 => Any.val (.int .i64 (k : Int))
                  | 9 => Any.val (.pointer (some ⟨be, oe + k * 6, none⟩))
                  | 10 => Any.val (.pointer (some ⟨be, oe + k * 6 + 2, none⟩))
                  | 11 => Any.val (.string ec)
                  | 12 => Any.val (.bool true)
                  | 13 => Any.val (.bool true)
                  | _ => Any.idle) (by kernel_rfl) (by kernel_rfl) (by kernel_rfl) ?_ ?_ ?_
                · intro i _
                  match i with
                  | 0 => exact Any.lasts_val _
                  | 1 => exact Any.lasts_val _
                  | 2 => exact Any.lasts_val _
                  | 3 => exact Any.lasts_val _
                  | 4 => exact Any.lasts_val _
                  | 5 => exact Any.lasts_val _
                  | 6 => exact Any.lasts_val _
                  | 7 => exact Any.lasts_val _
                  | 8 => exact Any.lasts_val _
                  | 9 => exact Any.lasts_val _
                  | 10 => exact Any.lasts_val _
                  | 11 => exact Any.lasts_val _
                  | 12 => exact Any.lasts_val _
                  | 13 => exact Any.lasts_val _
                  | n + 14 => exact Any.lasts_idle
                · refine ⟨?_, ?_, ?_, ?_, ?_, ?_, ?_, ?_, ?_, ?_, ?_, ?_, ?_, ?_, trivial⟩
                  · refine Any.owes_plain rfl fun ρ wo hs' hb hc' => ?_
                    have h15 : ρ (.tmp 15) = .pointer (some ⟨bx, 0, none⟩) := hs'.old' 15 (by kernel_rfl)
                    go_simp
                    exact Any.post_val hb rfl rfl
                  · refine Any.owes_plain rfl fun ρ wo hs' hb hc' => ?_
                    have h61 : ρ (.tmp 61) = .pointer (some ⟨bx, 0, none⟩) := hs'.new' 61 0 (by kernel_rfl)
                    have c0 := HXT.out wo (below_undrew hb)
                    go_simp
                    exact Any.post_val hb rfl rfl
                  · refine Any.owes_plain rfl fun ρ wo hs' hb hc' => ?_
                    have h1 : ρ (.tmp 1) = .string t := hs'.old' 1 (by kernel_rfl)
                    exact Any.ok_move (Any.post_val hb rfl h1)
                  · refine Any.owes_plain rfl fun ρ wo hs' hb hc' => ?_
                    have h62 : ρ (.tmp 62) = .string xt := hs'.new' 62 1 (by kernel_rfl)
                    have h63 : ρ (.tmp 63) = .string t := hs'.new' 63 2 (by kernel_rfl)
                    go_simp
                    exact Any.post_val hb rfl rfl
                  · refine Any.owes_plain rfl fun ρ wo hs' hb hc' => ?_
                    have h64 : ρ (.tmp 64) = .bool true := hs'.new' 64 3 (by kernel_rfl)
                    exact Any.ok_move (Any.post_val hb rfl h64)
                  · refine Any.owes_on rfl rfl (by kernel_rfl) rfl fun ρ wo hs' hb hc' => ?_
                    have h15 : ρ (.tmp 15) = .pointer (some ⟨bx, 0, none⟩) := hs'.old' 15 (by kernel_rfl)
                    go_simp
                    exact Any.post_val hb rfl rfl
                  · refine Any.owes_on rfl rfl (by kernel_rfl) rfl fun ρ wo hs' hb hc' => ?_
                    have h66 : ρ (.tmp 66) = .pointer (some ⟨bx, 2, none⟩) := hs'.new' 66 5 (by kernel_rfl)
                    have c0 := HXC.out wo (below_undrew hb)
                    go_simp
                    exact Any.post_val hb rfl rfl
                  · refine Any.owes_on rfl rfl (by kernel_rfl) rfl fun ρ wo hs' hb hc' => ?_
                    have h9 : ρ (.tmp 9) = .slice (some ⟨be, oe, none⟩) E.length ce := hs'.old' 9 (by kernel_rfl)
                    exact Any.ok_move (Any.post_val hb rfl h9)
                  · refine Any.owes_on rfl rfl (by kernel_rfl) rfl fun ρ wo hs' hb hc' => ?_
                    have h11 : ρ (.tmp 11) = .int .i64 (k : Int) := hs'.old' 11 (by kernel_rfl)
                    exact Any.ok_move (Any.post_val hb rfl h11)
                  · refine Any.owes_on rfl rfl (by kernel_rfl) rfl fun ρ wo hs' hb hc' => ?_
                    have h68 : ρ (.tmp 68) = .slice (some ⟨be, oe, none⟩) E.length ce := hs'.new' 68 7 (by kernel_rfl)
                    have h69 : ρ (.tmp 69) = .int .i64 (k : Int) := hs'.new' 69 8 (by kernel_rfl)
                    go_simp
                    exact Any.post_val hb rfl rfl
                  · refine Any.owes_on rfl rfl (by kernel_rfl) rfl fun ρ wo hs' hb hc' => ?_
                    have h70 : ρ (.tmp 70) = .pointer (some ⟨be, oe + k * 6, none⟩) := hs'.new' 70 9 (by kernel_rfl)
                    go_simp
                    exact Any.post_val hb rfl rfl
                  · refine Any.owes_on rfl rfl (by kernel_rfl) rfl fun ρ wo hs' hb hc' => ?_
                    have h71 : ρ (.tmp 71) = .pointer (some ⟨be, oe + k * 6 + 2, none⟩) := hs'.new' 71 10 (by kernel_rfl)
                    have c0 := HEC.out wo (below_undrew hb)
                    go_simp
                    exact Any.post_val hb rfl rfl
                  · refine Any.owes_on rfl rfl (by kernel_rfl) rfl fun ρ wo hs' hb hc' => ?_
                    have h67 : ρ (.tmp 67) = .string xc := hs'.new' 67 6 (by kernel_rfl)
                    have h72 : ρ (.tmp 72) = .string ec := hs'.new' 72 11 (by kernel_rfl)
                    go_simp
                    exact Any.post_val hb rfl rfl
                  · refine Any.owes_plain rfl fun ρ wo hs' hb hc' => ?_
                    have h65 : ρ (.tmp 65) = .bool true := hs'.new' 65 4 (by kernel_rfl)
                    have h73 : ρ (.tmp 73) = .bool true := hs'.new' 73 12 (by kernel_rfl)
                    go_simp
                    exact Any.post_val hb rfl rfl
                intro vals w7 hb hk ha
                have h13 : vals 13 = .bool true := hk 13 (by kernel_rfl)
                have HB7 := Lib.hid hb
                clear hk ha hb
                simp only [Any.putAll]
                go_frame
                simp only [Nat.zero_add, Nat.reduceAdd]
                rw [h13]
                clear h13
                obtain ⟨z0, z1, z2, z3, z4, z5⟩ := HPB.out w7 _ (blk HB7.out (lt_blk HXN.out) HXN.out)
                have HB8 := Lib.hid (HBA.out.trans (HB7.out.mono HBA.out.size))
                have HO8 := Lib.hid (ownsRow_below HOA.out HB7.out)
                have f4 : w7.frozen? ⟨bx, 4, none⟩ = false := free_blk (blk HB7.out (lt_blk HXN.out) HXN.out) 4
                have hset : (w7.setCell ⟨bx, 4, none⟩ (.int .i64 (xa - m))).heap[bx]? = some (.cells #[.string xt, .string xd, .string xc, .int .i64 xy, .int .i64 (xa - m), .bool xh] 37 (0, 0)) := by
                  simp [World.setCell, Array.getElem?_modify, blk HB7.out (lt_blk HXN.out) HXN.out]
                obtain ⟨y0, y1, y2, y3, y4, y5⟩ := HPQ.out _ _ hset
                have HKS := Lib.hid (Keep.of_grown (Ord.set_grown w7 bx 4 (.int .i64 (xa - m))))
                have HO8 := Lib.hid (ownsRow_keep HO8.out HKS.out (fun g hg e => by have := HNB.out g hg; have := Option.some.inj e; omega))
                have HB8 := Lib.hid (HB8.out.setCell (p := ⟨bx, 4, none⟩) HBXB.out (.int .i64 (xa - m)))
                by_cases hz : xa - m = 0
                · have tz : (xa - m == 0) = true := by simp [hz]
                  have HFS := Lib.hid (HFZ.out hz)
                  clear hz
                  go_wp2_with fail
                  go_roundw
                  case rel => exact ⟨j + 1, by have := HJL.out; omega, by go_num, by rw [HFS.out]; exact HO8.out, HB8.out⟩
                  case measure => have := HJL.out; (simp [intOf]) <;> omega
                · have tz : (xa - m == 0) = false := by simp [hz]
                  have HFS := Lib.hid (HFN.out hz)
                  clear hz hset
                  go_upto_region 20 with fail
                  generalize w7.setCell ⟨bx, 4, none⟩ (.int .i64 (xa - m)) = w8 at *
                  have HL : Hid (D.length + 1 ≤ maxLen ∧ (D.length + 1) * 72 ≤ 140737488355328 ∧ w5.heap.size ≤ w8.heap.size) := Lib.hid (by have := HLE.out; have := HB8.out.size; simp only [maxLen]; omega)
                  go_wp2_with (first
                    | (((with_reducible refine Any.wpl_push ?_ ?_ ?_ Try.underlying26 HI.out.1 HI.out.2.1 HI.out.2.2.1 HI.out.2.2.2 ?_ (by decide) ?_ (HPS.out) (HO8.out) HL.out.1 HL.out.2.1 HL.out.2.2 ?_); rfl; rfl; rfl; rfl; rfl; intro v9 w9 hown9 hgrow9 hwho9); have HO9 := Lib.hid hown9; have HG9 := Lib.hid hgrow9; clear hown9 hgrow9 hwho9)
                    | fail)
                  go_roundw
                  case rel => exact ⟨j + 1, by have := HJL.out; omega, by go_num, by
                    have := HO9.out
                    rw [HFS.out]
                    simpa [pgCells, Pg.row, Pg.cells] using this, HB8.out.grown HG9.out HB8.out.size (fun i hi => (HO8.out.lt i hi).1)⟩
                  case measure => have := HJL.out; (simp [intOf]) <;> omega
          · rw [List.take_of_length_le (by omega)] at hown
            have HOL := Lib.hid hown
            have HBL := Lib.hid hbel
            clear hown hbel hj
            go_wp2_with fail
            go_roundw
            case rel => exact ⟨k + 1, by omega, by go_num, by simp [HSS.out], by
              rw [HES.out, entCells_snoc, List.length_append]
              exact ownsRow_below HO5.out HBL.out, by rw [HES.out, List.length_append]; simp; omega, by
              rw [HES.out, HCS.out]
              exact own_pgs HOL.out rfl, by
              refine .inl fun b hb hx => ?_
              have h1 := (HOL.out.lt b hb).1
              have h2 := (HO5.out.lt b hx).2
              omega, by
              refine .inl fun b hb hx => ?_
              have h1 := (HOL.out.lt b hb).1
              have h2 := HFL.out b hx
              have h3 := HB2.out.size
              have h4 := HB5.out.size
              omega, HB5.out.trans (HBL.out.mono HB5.out.size)⟩
            case measure => (simp [intOf]) <;> omega
    · have HE : Hid (E.take k = E) := Lib.hid (List.take_of_length_le (by omega))
      clear hown hsl hbel hk
      go_wp2_with fail
      go_ret3
      have ho := HOWN.out
      have h1 := HSL.out
      have h2 := HOF2.out
      rw [HE.out] at ho h1 h2
      exact HRP.out _ _ _ _ (by rw [HE.out]; rfl) (own_ents ho rfl) h1 h2 (HB2.out.trans (HBEL.out.mono HB2.out.size))
end Go.Proofs.Ytnlfhncbnfmccaa.Sc
