/- The stock, and what storing costs, by the document. -/
import Derived.Test.YticnmmfiadpbbaaGreatRfS25
namespace Go.Proofs.YticnmmfiadpbbaaGreat.Sc
open Go Go.RowKit Go.ChangeShapes Go.WideShapes Go.ChangeAt
set_option maxRecDepth 100000

theorem allL_snoc (M : List Rv) {k : Nat} (h : k < M.length) : allL (rcsOf (M.take (k + 1))) = allL (rcsOf (M.take k)) ++ M[k].rc.lots := by
  rw [List.take_succ_eq_append_getElem h]
  simp only [allL, rcsOf, List.map_append, List.flatMap_append, List.map_cons, List.map_nil, List.flatMap_cons, List.flatMap_nil, List.append_nil]
theorem allL_take_len (M : List Rv) (k : Nat) : (allL (rcsOf (M.take k))).length ≤ (allL (rcsOf M)).length := by
  have e := congrArg (fun X => (allL (rcsOf X)).length) (List.take_append_drop k M).symm
  simp only [allL, rcsOf, List.map_append, List.flatMap_append, List.length_append] at e ⊢
  omega
theorem allL_pos {k : Nat} {h : Hs} (o : HsOk k h) : ∀ x ∈ allL h.L, 0 < x.cnt := by
  intro x hx
  obtain ⟨r, hr, hx⟩ := List.mem_flatMap.1 hx
  exact (o.all r hr).norm.pos x hx
set_option maxHeartbeats 8000000 in
theorem refStock_any {h : Hs} {k : Nat} (x : Value) (w : World) (r : RefH w x h) (hk : HsOk k h) (hlen : (allL h.L).length ≤ 100000) (hll : h.L.length ≤ 900000) :
    Calls Tryz.prog 58 #[x] w (RetRow w 47 2 (stockL h).length (ltCells (stockL h))) := by
  obtain ⟨M, vL, vU, rfl, h1, h2, h3, h4⟩ := r
  obtain ⟨aL, cL, rfl⟩ : ∃ a c, vL = .slice a M.length c := by simpa using h2.shape
  obtain ⟨aU, cU, rfl⟩ : ∃ a c, vU = .slice a h.used.length c := by simpa using h4.shape
  obtain ⟨nm, hnm⟩ : ∃ nm, nm = h.name := ⟨_, rfl⟩
  rw [← hnm]
  have HJN := Lib.hid (fun (W : World) (v : Value) (hv : Sl W 2 v ((allL h.L).map Lt.row)) => refJoin_any (allL h.L) v W hv hlen (allL_pos hk) (fun g => by have := allL_tot hk g; omega))
  obtain ⟨ST, hST⟩ : ∃ ST, ST = stockL h := ⟨_, rfl⟩
  have hSE : joinL (allL h.L) = ST := hST.symm
  rw [hSE] at HJN
  rw [← hST]
  have hML : M.length ≤ 900000 := by have := congrArg List.length h1; simp only [rcsOf, List.length_map] at this; omega
  have hml : M.length ≤ 9223372036854775807 := by omega
  have HAL : Hid (∀ k, (allL (rcsOf (M.take k))).length ≤ 100000) := Lib.hid (fun k => by have := allL_take_len M k; rw [h1] at this; omega)
  have HAE : Hid (allL (rcsOf M) = allL h.L) := Lib.hid (by rw [h1])
  have HS2 := Lib.hid h2
  have HS3 := Lib.hid h3
  obtain ⟨i0, hi, hz, hsz, hby⟩ := info_parts infoLt
  have HI := Lib.hid (And.intro hi (And.intro hz (And.intro hsz hby)))
  obtain ⟨uL, huL⟩ : ∃ u, u = h.used.length := ⟨_, rfl⟩
  rw [← huL]
  have HB0 := Lib.hid (one_below w (.cells #[.string nm, .slice aL M.length cL, .slice aU uL cU] 29))
  have HX0 := Lib.hid (heap_alloc_new w (.cells #[.string nm, .slice aL M.length cL, .slice aU uL cU] 29))
  clear hi hz hsz hby h1 h2 h3 h4 hnm huL hST hSE hlen hll hk hML
  go_enter Tryz.func58, Tryz.ntmps58
  go_wp2_with fail
  have HB1 := Lib.hid (one_below (w.alloc (.cells #[.string nm, .slice aL M.length cL, .slice aU uL cU] 29)) (.cells #[] 47))
  have HW1 : Hid ((w.alloc (.cells #[.string nm, .slice aL M.length cL, .slice aU uL cU] 29)).heap.size = w.heap.size + 1) := Lib.hid (by simp)
  have HOWN0 : Hid (((w.alloc (.cells #[.string nm, .slice aL M.length cL, .slice aU uL cU] 29)).alloc (.cells #[] 47)).ownsRow (w.heap.size + 1) 47 2 (.slice (some ⟨w.heap.size + 1, 0, none⟩) 0 0) 0 []) := Lib.hid (by
    have := World.ownsRow_made (w.alloc (.cells #[.string nm, .slice aL M.length cL, .slice aU uL cU] 29)) (e := 47) (size := 2) #[] 0 (Nat.le_of_eq HW1.out.symm) (by simp [maxLen]) rfl
    rw [HW1.out] at this
    exact this)
  go_loopw [3, 4] (fun o i wr => ∃ k : Nat, k ≤ M.length ∧ i = .int .i64 k ∧ wr.ownsRow (w.heap.size + 1) 47 2 o (allL (rcsOf (M.take k))).length (ltCells (allL (rcsOf (M.take k)))) ∧ Below w.heap.size w wr ∧ wr.heap[w.heap.size]? = some (.cells #[.string nm, .slice aL M.length cL, .slice aU uL cU] 29 (0, 0))) (fun _ i _ => M.length - (intOf i).toNat)
  case atStart => exact ⟨0, Nat.zero_le _, rfl, by simpa [allL, rcsOf, ltCells] using HOWN0.out, HB0.out.trans (HB1.out.mono HB0.out.size), blk HB1.out (by have := HW1.out; omega) HX0.out⟩
  case round =>
    obtain ⟨k, hk, rfl, hown, hbel, hbox⟩ := hrel
    have HOWN := Lib.hid hown
    have HBEL := Lib.hid hbel
    have HBOX := Lib.hid hbox
    have c1 := cell_blk hbox 1
    simp only [List.getElem?_toArray, List.getElem?_cons_succ, List.getElem?_cons_zero] at c1
    clear hown
    by_cases hlt : k < M.length
    · obtain ⟨b, off, rfl, hb, hc⟩ := sl_rv HS2.out hlt
      have d3 := (hc.below hbel hb).2.2.2.1
      have hrow := HS3.out _ (List.getElem_mem hlt)
      obtain ⟨ax, cx, hxv⟩ := hrow.shape
      simp only [List.length_map] at hxv
      have HNX := Lib.hid (allL_snoc M hlt)
      have HAN := HAL.out (k + 1)
      rw [HNX.out, List.length_append] at HAN
      have HLX := Lib.hid HAN
      unfold RvOk at hrow
      rw [hxv] at d3 hrow
      clear hc hxv HAN
      generalize M[k].rc.lots = xl at *
      generalize allL (rcsOf (M.take k)) = A at *
      have HSR := Lib.hid (Sl.src (hrow.below hbel (Nat.le_refl _)) (lt_rows xl) (by decide))
      rw [List.length_map, ← ltCells_flat] at HSR
      have HL : Hid (A.length + xl.length ≤ maxLen ∧ (A.length + xl.length) * 24 ≤ 140737488355328 ∧ w.heap.size + 1 ≤ wr.heap.size) := Lib.hid (by
        have h1 := HLX.out
        have h2 := lt_blk hbox
        simp only [maxLen]
        omega)
      have HONE : Hid (∀ u ∈ ltCells xl, u.oneCell' = true) := Lib.hid (by
        intro u hu
        obtain ⟨y, _, hy⟩ := List.mem_flatMap.1 hu
        simp only [Lt.row, List.mem_cons, List.not_mem_nil, or_false] at hy
        rcases hy with rfl | rfl <;> rfl)
      clear hrow hbel hbox
      go_wp2_with (first
        | ((with_reducible refine Any.wpl_cat ?_ ?_ ?_ Tryz.underlying32 HI.out.1 HI.out.2.1 HI.out.2.2.1 HI.out.2.2.2 ?_ (by decide) HOWN.out HSR.out HONE.out HL.out.1 HL.out.2.1 HL.out.2.2 ?_); rfl; rfl; rfl; rfl; intro v6 w6 hown6 hgrow6 hwho6; have HB6 := Lib.hid (put_keep HOWN.out HBEL.out HBOX.out hgrow6); have HO6 := Lib.hid hown6; clear hown6 hgrow6 hwho6)
        | fail)
      go_roundw
      case rel => exact ⟨k + 1, by omega, by go_num, by rw [HNX.out, List.length_append, ltCells_append]; exact HO6.out, HB6.out.1, HB6.out.2⟩
      case measure => (simp [intOf]) <;> omega
    · have HE : Hid (allL (rcsOf (M.take k)) = allL h.L) := Lib.hid (by rw [List.take_of_length_le (by omega), HAE.out])
      rw [HE.out] at HOWN
      have HJ := Lib.hid (HJN.out wr _ (own_lots HOWN.out rfl))
      clear hbel hbox
      go_wp2_with (first
        | ((with_reducible refine HJ.out.mono ?_); rintro e w6 ⟨v6, rfl, ho6, hb6⟩; have HO6 := Lib.hid ho6; have HB6 := Lib.hid (HBEL.out.trans (hb6.mono HBEL.out.size)); clear ho6 hb6)
        | fail)
      go_ret
      exact retRow HO6.out HBEL.out.size HB6.out
theorem totC_take {l : List Lt} {k : Nat} (h : k < l.length) : totC (l.take (k + 1)) = totC (l.take k) + l[k].cnt := by
  rw [List.take_succ_eq_append_getElem h, totC_app]; simp [totC]
theorem totC_take_le {l : List Lt} (hp : ∀ x ∈ l, 0 < x.cnt) (k : Nat) : 0 ≤ totC (l.take k) ∧ totC (l.take k) ≤ totC l := by
  have h1 : totC l = totC (l.take k) + totC (l.drop k) := by rw [← totC_app, List.take_append_drop]
  have h2 := totC_pos (l := l.take k) fun x hx => hp x (List.mem_of_mem_take hx)
  have h3 := totC_pos (l := l.drop k) fun x hx => hp x (List.mem_of_mem_drop hx)
  omega
def ChP (w : World) (r : Int × Int) : Ending → World → Prop := Ret w (.tuple #[.int .i64 r.1, .int .i64 r.2])
theorem chP {w w' : World} {r : Int × Int} {a b : Int} (h : r = (a, b)) (hb : Below w.heap.size w w') : ChP w r (.returned (.tuple #[.int .i64 a, .int .i64 b])) w' := by subst h; exact ⟨rfl, hb⟩
/-- Charges of a receipt that is there, way by way. -/
theorem charge_ways {h : Hs} {n : ByteArray} {d p : Int} {r : Rc} (hr : rfind h.L n = some r) (hro : RcOk r) :
    (d < r.day ∧ chargeC h n d p = (0, 3)) ∨ (¬ d < r.day ∧ 1048576 < d ∧ chargeC h n d p = (0, 3)) ∨ (¬ d < r.day ∧ ¬ 1048576 < d ∧ p < 0 ∧ chargeC h n d p = (0, 3)) ∨ (¬ d < r.day ∧ ¬ 1048576 < d ∧ ¬ p < 0 ∧ 1099511627776 < p ∧ chargeC h n d p = (0, 3)) ∨
    (¬ d < r.day ∧ ¬ 1048576 < d ∧ ¬ p < 0 ∧ ¬ 1099511627776 < p ∧ ∃ T, T = totC r.lots * (d - r.day) ∧ 0 ≤ T ∧ T ≤ 70368744177664 ∧
      ((1099511627776 < T * p ∧ 0 < T ∧ 0 < p ∧ (1099511627776 : Int) / T < p ∧ (1099511627776 : Int) / p < T ∧ chargeC h n d p = (0, 3)) ∨ (T * p ≤ 1099511627776 ∧ 0 ≤ T * p ∧ (0 < T → ¬ (1099511627776 : Int) / T < p) ∧ (0 < p → ¬ (1099511627776 : Int) / p < T) ∧ chargeC h n d p = (T * p, 0)))) := by
  unfold chargeC
  rw [hr]
  simp only
  by_cases h1 : d < r.day
  · exact .inl ⟨h1, by rw [decide_eq_true h1]; rfl⟩
  refine .inr ?_
  by_cases h2 : 1048576 < d
  · exact .inl ⟨h1, h2, by rw [decide_eq_true h2, Bool.true_or, Bool.or_true]; rfl⟩
  refine .inr ?_
  by_cases h3 : p < 0
  · exact .inl ⟨h1, h2, h3, by rw [decide_eq_true h3, Bool.true_or, Bool.or_true, Bool.or_true]; rfl⟩
  refine .inr ?_
  by_cases h4 : 1099511627776 < p
  · exact .inl ⟨h1, h2, h3, h4, by rw [decide_eq_true h4, Bool.or_true, Bool.or_true, Bool.or_true]; rfl⟩
  refine .inr ⟨h1, h2, h3, h4, totC r.lots * (d - r.day), rfl, ?_, ?_, ?_⟩
  · exact Int.mul_nonneg (totC_pos hro.norm.pos) (by omega)
  · have h5 := totC_pos hro.norm.pos
    have h6 := hro.cnt
    have h7 := hro.day
    have h8 : totC r.lots * (d - r.day) ≤ 67108864 * 1048576 := Int.mul_le_mul h6 (by omega) (by omega) (by omega)
    omega
  · rw [decide_eq_false h1, decide_eq_false h2, decide_eq_false h3, decide_eq_false h4]
    rw [if_neg (show ¬ ((false || (false || (false || false))) = true) by decide)]
    have hT : 0 ≤ chargeT r d := Int.mul_nonneg (totC_pos hro.norm.pos) (by omega)
    rw [show totC r.lots * (d - r.day) = chargeT r d from rfl]
    generalize chargeT r d = T at *
    by_cases h5 : 1099511627776 < T * p
    · have hp : 0 < p := by
        rcases Int.lt_or_le 0 p with h | h
        · exact h
        · have : p = 0 := by omega
          subst this; simp at h5
      have hT0 : 0 < T := by
        rcases Int.lt_or_le 0 T with h | h
        · exact h
        · have : T = 0 := by omega
          subst this; simp at h5
      exact .inl ⟨h5, hT0, hp, Int.ediv_lt_of_lt_mul hT0 (by rw [Int.mul_comm]; exact h5), Int.ediv_lt_of_lt_mul hp h5, by rw [if_pos h5]⟩
    · refine .inr ⟨by omega, Int.mul_nonneg hT (by omega), fun hT0 => ?_, fun hp => ?_, by rw [if_neg h5]⟩
      · have := Int.le_ediv_of_mul_le hT0 (show p * T ≤ 1099511627776 by rw [Int.mul_comm]; omega)
        omega
      · have := Int.le_ediv_of_mul_le hp (show T * p ≤ 1099511627776 by omega)
        omega
end Go.Proofs.YticnmmfiadpbbaaGreat.Sc
