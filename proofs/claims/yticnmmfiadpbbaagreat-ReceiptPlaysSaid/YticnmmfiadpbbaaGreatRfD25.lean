/- The document's rows of receipts: one put by its number. -/
import Derived.Test.YticnmmfiadpbbaaGreatRfC25
import Derived.Test.YticnmmfiadpbbaaGreatGuard
import Derived.Test.YticnmmfiadpbbaaGreatKeep
namespace Go.Proofs.YticnmmfiadpbbaaGreat.Sc
open Go Go.RowKit Go.ChangeShapes Go.WideShapes Go.ChangeAt
set_option maxRecDepth 100000

def pick2 (d : Bool) (a b : List Rv) : List Rv := match d with
  | true => a
  | false => b
theorem put_keep {w wr W : World} {e : TypeId} {sz n : Nat} {v : Value} {xs : List Value} {o : Obj} (hown : wr.ownsRow (w.heap.size + 1) e sz v n xs) (hbel : Below w.heap.size w wr) (hbox : wr.heap[w.heap.size]? = some o) (hg : wr.grownBy W v.ownBlock) :
    Below w.heap.size w W ∧ W.heap[w.heap.size]? = some o :=
  ⟨hbel.grown hg hbel.size (fun j hj => by have := (hown.lt j hj).1; omega), (hg.block _ (lt_blk hbox) (fun e => by have := (hown.lt _ e.symm).1; omega)).trans hbox⟩
theorem rputV_drop {M : List Rv} {x : Rv} {k : Nat} (h : k < M.length) : rputV (M.drop k) x = if strLtB x.rc.num M[k].rc.num = true then x :: M[k] :: M.drop (k + 1) else M[k] :: rputV (M.drop (k + 1)) x := by
  rw [List.drop_eq_getElem_cons h]; rfl
set_option maxHeartbeats 8000000 in
theorem refPut_rc (M : List Rv) (x : Rv) (v : Value) (w : World) (hs : Sl w 5 v (M.map Rv.row)) (hok : ∀ y ∈ M, RvOk w y) (hx : RvOk w x) (hlen : M.length ≤ 1000000) :
    Calls Tryz.prog 75 #[v, .agg x.cells] w (RetRow w 34 5 (rputV M x).length (rvCells (rputV M x))) := by
  have hll : M.length ≤ 9223372036854775807 := by omega
  have HS := Lib.hid hs
  have HOK := Lib.hid hok
  have HLEN := Lib.hid hlen
  have HX1 := Lib.hid (rv_one' hx)
  obtain ⟨a, c, rfl⟩ : ∃ a c, v = .slice a M.length c := by simpa using hs.shape
  obtain ⟨i0, hi, hz, hsz, hby⟩ := info_parts infoRv
  have HI := Lib.hid (And.intro hi (And.intro hz (And.intro hsz hby)))
  have HB0 := Lib.hid (one_below w (.cells x.cells 34))
  have HX0 := Lib.hid (heap_alloc_new w (.cells x.cells 34))
  obtain ⟨P, hP⟩ : ∃ P, P = rputV M x := ⟨_, rfl⟩
  have HP := Lib.hid hP
  have HPD : Hid (∀ k, ∀ h : k < M.length, rputV (M.drop k) x = if strLtB x.rc.num M[k].rc.num = true then x :: M[k] :: M.drop (k + 1) else M[k] :: rputV (M.drop (k + 1)) x) := Lib.hid (fun k h => rputV_drop h)
  rw [← hP]
  clear hP
  generalize hF : (fun k => rputV (M.drop k) x) = F at *
  have HF : Hid (∀ k, F k = rputV (M.drop k) x) := Lib.hid (fun k => by rw [← hF])
  clear hi hz hsz hby hs hok hlen hx hF
  obtain ⟨⟨xn, xh, xo, xl, xd⟩, xv⟩ := x
  simp only [Rv.cells] at HB0 HX0 HX1 ⊢
  go_enter Tryz.func75, Tryz.ntmps75
  go_wp2_with fail
  obtain ⟨bx, hbx⟩ : ∃ b, b = w.heap.size := ⟨_, rfl⟩
  have HBX := Lib.hid hbx
  have HB1 := Lib.hid (one_below (w.alloc (.cells #[.string xn, .string xh, .string xo, xv, .int .i64 xd] 34)) (.cells #[] 34))
  have HW1 : Hid ((w.alloc (.cells #[.string xn, .string xh, .string xo, xv, .int .i64 xd] 34)).heap.size = w.heap.size + 1) := Lib.hid (by simp)
  have HOWN0 : Hid (((w.alloc (.cells #[.string xn, .string xh, .string xo, xv, .int .i64 xd] 34)).alloc (.cells #[] 34)).ownsRow (w.heap.size + 1) 34 5 (.slice (some ⟨w.heap.size + 1, 0, none⟩) 0 0) 0 []) := Lib.hid (by
    have := World.ownsRow_made (w.alloc (.cells #[.string xn, .string xh, .string xo, xv, .int .i64 xd] 34)) (e := 34) (size := 5) #[] 0 (Nat.le_of_eq HW1.out.symm) (by simp [maxLen]) rfl
    rw [HW1.out] at this
    exact this)
  go_loopw [5, 6, 7] (fun o d i wr => ∃ (k : Nat) (out : List Rv) (done : Bool), k ≤ M.length ∧ i = .int .i64 k ∧ d = .bool done ∧ wr.ownsRow (w.heap.size + 1) 34 5 o out.length (rvCells out) ∧ Below w.heap.size w wr ∧ wr.heap[w.heap.size]? = some (.cells #[.string xn, .string xh, .string xo, xv, .int .i64 xd] 34 (0, 0)) ∧ P = out ++ pick2 done (M.drop k) (F k) ∧ out.length ≤ 2 * k) (fun _ _ i _ => M.length - (intOf i).toNat)
  case atStart =>
    refine ⟨0, [], false, Nat.zero_le _, rfl, rfl, HOWN0.out, HB0.out.trans (HB1.out.mono HB0.out.size), ?_, ?_, by simp⟩
    · exact blk HB1.out (by have := HW1.out; omega) HX0.out
    · rw [HP.out, HF.out]; rfl
  case round =>
    obtain ⟨k, out, done, hk, rfl, rfl, hown, hbel, hbox, hput, hol⟩ := hrel
    have HOWN := Lib.hid hown
    have HPUT := Lib.hid hput
    have HBEL := Lib.hid hbel
    have HBOX := Lib.hid hbox
    have c0 := cell_blk hbox 0
    have c1 := cell_blk hbox 1
    have c2 := cell_blk hbox 2
    have c3 := cell_blk hbox 3
    have c4 := cell_blk hbox 4
    simp only [List.getElem?_toArray, List.getElem?_cons_succ, List.getElem?_cons_zero] at c0 c1 c2 c3 c4
    have HL : Hid (out.length + 1 + 1 ≤ maxLen ∧ (out.length + 1 + 1) * 80 ≤ 140737488355328 ∧ w.heap.size + 1 ≤ wr.heap.size) := Lib.hid (by
      have h3 := HLEN.out
      have h4 := lt_blk hbox
      simp only [maxLen]
      omega)
    have HLA : Hid (out.length + 1 ≤ maxLen ∧ (out.length + 1) * 80 ≤ 140737488355328 ∧ w.heap.size + 1 ≤ wr.heap.size) := Lib.hid (by
      have h3 := HLEN.out
      have h4 := lt_blk hbox
      simp only [maxLen]
      omega)
    clear hown hput
    by_cases hlt : k < M.length
    · obtain ⟨b, off, rfl, hb, hc⟩ := sl_rv HS.out hlt
      have HC := Lib.hid hc
      have HBB := Lib.hid hb
      have HM1 : Hid (M.drop k = M[k] :: M.drop (k + 1)) := Lib.hid (List.drop_eq_getElem_cons hlt)
      have HF1 : Hid (F k = if strLtB xn M[k].rc.num = true then ⟨⟨xn, xh, xo, xl, xd⟩, xv⟩ :: M[k] :: M.drop (k + 1) else M[k] :: F (k + 1)) := Lib.hid (by rw [HF.out, HF.out]; exact HPD.out k hlt)
      have HONE := Lib.hid (rv_one' (HOK.out _ (List.getElem_mem hlt)))
      clear hc hbel hbox HPD c0 c1 c2 c3 c4
      generalize M[k] = y at *
      obtain ⟨⟨yn, yh, yo, yl, yd⟩, yv⟩ := y
      simp only at HONE HF1
      cases done
      · cases hle : strLtB xn yn
        · have HQ : Hid (F k = ⟨⟨yn, yh, yo, yl, yd⟩, yv⟩ :: F (k + 1)) := Lib.hid (by rw [HF1.out, if_neg (by rw [hle]; decide)])
          have t1 : Op.bytesLess xn.toList yn.toList = false := hle
          clear hle
          go_wp2_with fail
          refine Any.region_lit (fun
            | 0 => Any.val (.bool false)
            | 1 => Any.val (.bool true)
            | 2 => Any.val (.bool true)
            | 3 => Any.val (.pointer (some ⟨w.heap.size, 0, none⟩))
            | 4 => Any.val (.string xn)
            | 5 => Any.val (.slice (some ⟨b, off, none⟩) M.length c)
            | 6 => Any.val (.int .i64 (k : Int))
            | 7 => Any.val (.pointer (some ⟨b, off + k * 5, none⟩))
            | 8 => Any.val (.pointer (some ⟨b, off + k * 5, none⟩))
            | 9 => Any.val (.string yn)
            | 10 => Any.val (.bool false)
            | 11 => Any.val (.bool false)
            | _ => Any.idle) (by kernel_rfl) (by kernel_rfl) (by kernel_rfl) ?_ ?_ ?_
          · intro i _
            match i with
            | 0 => exact Any.lasts_val _
            | 1 => exact Any.lasts_val _
            | 2 => exact Any.lasts_val _
            | 3 => exact Any.lasts_val _
            | 4 => exact Any.lasts_val _
            | 5 => exact Any.lasts_val _
            | 6 => exact Any.lasts_val _
            | 7 => exact Any.lasts_val _
            | 8 => exact Any.lasts_val _
            | 9 => exact Any.lasts_val _
            | 10 => exact Any.lasts_val _
            | 11 => exact Any.lasts_val _
            | n + 12 => exact Any.lasts_idle
          · refine ⟨?_, ?_, ?_, ?_, ?_, ?_, ?_, ?_, ?_, ?_, ?_, ?_, trivial⟩
            · refine Any.owes_plain rfl fun ρ wo hs' hb hc' => ?_
              have h6 : ρ (.tmp 6) = .bool false := hs'.old' 6 (by kernel_rfl)
              exact Any.ok_move (Any.post_val hb rfl h6)
            · refine Any.owes_plain rfl fun ρ wo hs' hb hc' => ?_
              have h15 : ρ (.tmp 15) = .bool false := hs'.new' 15 0 (by kernel_rfl)
              go_simp
              exact Any.post_val hb rfl rfl
            · refine Any.owes_plain rfl fun ρ wo hs' hb hc' => ?_
              have h16 : ρ (.tmp 16) = .bool true := hs'.new' 16 1 (by kernel_rfl)
              exact Any.ok_move (Any.post_val hb rfl h16)
            · refine Any.owes_on rfl rfl (by kernel_rfl) rfl fun ρ wo hs' hb hc' => ?_
              have h3 : ρ (.tmp 3) = .pointer (some ⟨w.heap.size, 0, none⟩) := hs'.old' 3 (by kernel_rfl)
              go_simp
              exact Any.post_val hb rfl rfl
            · refine Any.owes_on rfl rfl (by kernel_rfl) rfl fun ρ wo hs' hb hc' => ?_
              have h18 : ρ (.tmp 18) = .pointer (some ⟨w.heap.size, 0, none⟩) := hs'.new' 18 3 (by kernel_rfl)
              have c0 := cell_blk (blk (below_undrew hb) (lt_blk HBOX.out) HBOX.out) 0
              simp only [List.getElem?_toArray, List.getElem?_cons_zero] at c0
              go_simp
              exact Any.post_val hb rfl rfl
            · refine Any.owes_on rfl rfl (by kernel_rfl) rfl fun ρ wo hs' hb hc' => ?_
              have h0 : ρ (.tmp 0) = .slice (some ⟨b, off, none⟩) M.length c := hs'.old' 0 (by kernel_rfl)
              exact Any.ok_move (Any.post_val hb rfl h0)
            · refine Any.owes_on rfl rfl (by kernel_rfl) rfl fun ρ wo hs' hb hc' => ?_
              have h7 : ρ (.tmp 7) = .int .i64 (k : Int) := hs'.old' 7 (by kernel_rfl)
              exact Any.ok_move (Any.post_val hb rfl h7)
            · refine Any.owes_on rfl rfl (by kernel_rfl) rfl fun ρ wo hs' hb hc' => ?_
              have h20 : ρ (.tmp 20) = .slice (some ⟨b, off, none⟩) M.length c := hs'.new' 20 5 (by kernel_rfl)
              have h21 : ρ (.tmp 21) = .int .i64 (k : Int) := hs'.new' 21 6 (by kernel_rfl)
              go_simp
              exact Any.post_val hb rfl rfl
            · refine Any.owes_on rfl rfl (by kernel_rfl) rfl fun ρ wo hs' hb hc' => ?_
              have h22 : ρ (.tmp 22) = .pointer (some ⟨b, off + k * 5, none⟩) := hs'.new' 22 7 (by kernel_rfl)
              go_simp
              exact Any.post_val hb rfl rfl
            · refine Any.owes_on rfl rfl (by kernel_rfl) rfl fun ρ wo hs' hb hc' => ?_
              have h23 : ρ (.tmp 23) = .pointer (some ⟨b, off + k * 5, none⟩) := hs'.new' 23 8 (by kernel_rfl)
              have d0 := (HC.out.below (HBEL.out.trans ((below_undrew hb).mono HBEL.out.size)) HBB.out).1
              simp only at d0
              go_simp
              exact Any.post_val hb rfl rfl
            · refine Any.owes_on rfl rfl (by kernel_rfl) rfl fun ρ wo hs' hb hc' => ?_
              have h19 : ρ (.tmp 19) = .string xn := hs'.new' 19 4 (by kernel_rfl)
              have h24 : ρ (.tmp 24) = .string yn := hs'.new' 24 9 (by kernel_rfl)
              go_simp
              exact Any.post_val hb rfl rfl
            · refine Any.owes_plain rfl fun ρ wo hs' hb hc' => ?_
              have h17 : ρ (.tmp 17) = .bool true := hs'.new' 17 2 (by kernel_rfl)
              have h25 : ρ (.tmp 25) = .bool false := hs'.new' 25 10 (by kernel_rfl)
              go_simp
              exact Any.post_val hb rfl rfl
          intro vals w5 hb hk ha
          have h11 : vals 11 = .bool false := hk 11 (by kernel_rfl)
          have HOWN5 := Lib.hid (ownsRow_below HOWN.out hb)
          have HBOX5 := Lib.hid (blk hb (lt_blk HBOX.out) HBOX.out)
          have HL5 : Hid (out.length + 1 ≤ maxLen ∧ (out.length + 1) * 80 ≤ 140737488355328 ∧ w.heap.size + 1 ≤ w5.heap.size) := Lib.hid ⟨HLA.out.1, HLA.out.2.1, Nat.le_trans HLA.out.2.2 hb.size⟩
          have HBEL5 := Lib.hid (HBEL.out.trans (hb.mono HBEL.out.size))
          clear hk ha hb
          simp only [Any.putAll]
          go_frame
          simp only [Nat.zero_add, Nat.reduceAdd]
          rw [h11]
          clear h11
          obtain ⟨d0, d1, d2, d3, d4⟩ := HC.out.below HBEL5.out HBB.out
          simp only at d0 d1 d2 d3 d4
          go_wp2_with (first
            | (((with_reducible refine Any.wpl_push ?_ ?_ ?_ Tryz.underlying26 HI.out.1 HI.out.2.1 HI.out.2.2.1 HI.out.2.2.2 ?_ (by decide) ?_ (HONE.out) (HOWN5.out) HL5.out.1 HL5.out.2.1 HL5.out.2.2 ?_); rfl; rfl; rfl; rfl; rfl; intro v1 w1 hown1 hgrow1 hwho1); have HB1 := Lib.hid (put_keep HOWN5.out HBEL5.out HBOX5.out hgrow1); have HOWN1 := Lib.hid hown1; clear hown1 hgrow1 hwho1)
            | fail)
          go_roundw
          case rel => exact ⟨k + 1, out ++ [⟨⟨yn, yh, yo, yl, yd⟩, yv⟩], false, by omega, by go_num, rfl, by have := HOWN1.out; simpa [rvCells_snoc, Rv.cells] using this, HB1.out.1, HB1.out.2, by rw [HPUT.out]; show out ++ F k = _; rw [HQ.out]; simp [pick2], by simp; omega⟩
          case measure => (simp [intOf]) <;> omega
        · have HQ : Hid (F k = ⟨⟨xn, xh, xo, xl, xd⟩, xv⟩ :: ⟨⟨yn, yh, yo, yl, yd⟩, yv⟩ :: M.drop (k + 1)) := Lib.hid (by rw [HF1.out, if_pos hle])
          have t1 : Op.bytesLess xn.toList yn.toList = true := hle
          clear hle
          go_wp2_with fail
          refine Any.region_lit (fun
            | 0 => Any.val (.bool false)
            | 1 => Any.val (.bool true)
            | 2 => Any.val (.bool true)
            | 3 => Any.val (.pointer (some ⟨w.heap.size, 0, none⟩))
            | 4 => Any.val (.string xn)
            | 5 => Any.val (.slice (some ⟨b, off, none⟩) M.length c)
            | 6 => Any.val (.int .i64 (k : Int))
            | 7 => Any.val (.pointer (some ⟨b, off + k * 5, none⟩))
            | 8 => Any.val (.pointer (some ⟨b, off + k * 5, none⟩))
            | 9 => Any.val (.string yn)
            | 10 => Any.val (.bool true)
            | 11 => Any.val (.bool true)
            | _ => Any.idle) (by kernel_rfl) (by kernel_rfl) (by kernel_rfl) ?_ ?_ ?_
          · intro i _
            match i with
            | 0 => exact Any.lasts_val _
            | 1 => exact Any.lasts_val _
            | 2 => exact Any.lasts_val _
            | 3 => exact Any.lasts_val _
            | 4 => exact Any.lasts_val _
            | 5 => exact Any.lasts_val _
            | 6 => exact Any.lasts_val _
            | 7 => exact Any.lasts_val _
            | 8 => exact Any.lasts_val _
            | 9 => exact Any.lasts_val _
            | 10 => exact Any.lasts_val _
            | 11 => exact Any.lasts_val _
            | n + 12 => exact Any.lasts_idle
          · refine ⟨?_, ?_, ?_, ?_, ?_, ?_, ?_, ?_, ?_, ?_, ?_, ?_, trivial⟩
            · refine Any.owes_plain rfl fun ρ wo hs' hb hc' => ?_
              have h6 : ρ (.tmp 6) = .bool false := hs'.old' 6 (by kernel_rfl)
              exact Any.ok_move (Any.post_val hb rfl h6)
            · refine Any.owes_plain rfl fun ρ wo hs' hb hc' => ?_
              have h15 : ρ (.tmp 15) = .bool false := hs'.new' 15 0 (by kernel_rfl)
              go_simp
              exact Any.post_val hb rfl rfl
            · refine Any.owes_plain rfl fun ρ wo hs' hb hc' => ?_
              have h16 : ρ (.tmp 16) = .bool true := hs'.new' 16 1 (by kernel_rfl)
              exact Any.ok_move (Any.post_val hb rfl h16)
            · refine Any.owes_on rfl rfl (by kernel_rfl) rfl fun ρ wo hs' hb hc' => ?_
              have h3 : ρ (.tmp 3) = .pointer (some ⟨w.heap.size, 0, none⟩) := hs'.old' 3 (by kernel_rfl)
              go_simp
              exact Any.post_val hb rfl rfl
            · refine Any.owes_on rfl rfl (by kernel_rfl) rfl fun ρ wo hs' hb hc' => ?_
              have h18 : ρ (.tmp 18) = .pointer (some ⟨w.heap.size, 0, none⟩) := hs'.new' 18 3 (by kernel_rfl)
              have c0 := cell_blk (blk (below_undrew hb) (lt_blk HBOX.out) HBOX.out) 0
              simp only [List.getElem?_toArray, List.getElem?_cons_zero] at c0
              go_simp
              exact Any.post_val hb rfl rfl
            · refine Any.owes_on rfl rfl (by kernel_rfl) rfl fun ρ wo hs' hb hc' => ?_
              have h0 : ρ (.tmp 0) = .slice (some ⟨b, off, none⟩) M.length c := hs'.old' 0 (by kernel_rfl)
              exact Any.ok_move (Any.post_val hb rfl h0)
            · refine Any.owes_on rfl rfl (by kernel_rfl) rfl fun ρ wo hs' hb hc' => ?_
              have h7 : ρ (.tmp 7) = .int .i64 (k : Int) := hs'.old' 7 (by kernel_rfl)
              exact Any.ok_move (Any.post_val hb rfl h7)
            · refine Any.owes_on rfl rfl (by kernel_rfl) rfl fun ρ wo hs' hb hc' => ?_
              have h20 : ρ (.tmp 20) = .slice (some ⟨b, off, none⟩) M.length c := hs'.new' 20 5 (by kernel_rfl)
              have h21 : ρ (.tmp 21) = .int .i64 (k : Int) := hs'.new' 21 6 (by kernel_rfl)
              go_simp
              exact Any.post_val hb rfl rfl
            · refine Any.owes_on rfl rfl (by kernel_rfl) rfl fun ρ wo hs' hb hc' => ?_
              have h22 : ρ (.tmp 22) = .pointer (some ⟨b, off + k * 5, none⟩) := hs'.new' 22 7 (by kernel_rfl)
              go_simp
              exact Any.post_val hb rfl rfl
            · refine Any.owes_on rfl rfl (by kernel_rfl) rfl fun ρ wo hs' hb hc' => ?_
              have h23 : ρ (.tmp 23) = .pointer (some ⟨b, off + k * 5, none⟩) := hs'.new' 23 8 (by kernel_rfl)
              have d0 := (HC.out.below (HBEL.out.trans ((below_undrew hb).mono HBEL.out.size)) HBB.out).1
              simp only at d0
              go_simp
              exact Any.post_val hb rfl rfl
            · refine Any.owes_on rfl rfl (by kernel_rfl) rfl fun ρ wo hs' hb hc' => ?_
              have h19 : ρ (.tmp 19) = .string xn := hs'.new' 19 4 (by kernel_rfl)
              have h24 : ρ (.tmp 24) = .string yn := hs'.new' 24 9 (by kernel_rfl)
              go_simp
              exact Any.post_val hb rfl rfl
            · refine Any.owes_plain rfl fun ρ wo hs' hb hc' => ?_
              have h17 : ρ (.tmp 17) = .bool true := hs'.new' 17 2 (by kernel_rfl)
              have h25 : ρ (.tmp 25) = .bool true := hs'.new' 25 10 (by kernel_rfl)
              go_simp
              exact Any.post_val hb rfl rfl
          intro vals w5 hb hk ha
          have h11 : vals 11 = .bool true := hk 11 (by kernel_rfl)
          have HOWN5 := Lib.hid (ownsRow_below HOWN.out hb)
          have HBOX5 := Lib.hid (blk hb (lt_blk HBOX.out) HBOX.out)
          have HL5 : Hid (out.length + 1 ≤ maxLen ∧ (out.length + 1) * 80 ≤ 140737488355328 ∧ w.heap.size + 1 ≤ w5.heap.size) := Lib.hid ⟨HLA.out.1, HLA.out.2.1, Nat.le_trans HLA.out.2.2 hb.size⟩
          have HBEL5 := Lib.hid (HBEL.out.trans (hb.mono HBEL.out.size))
          clear hk ha hb
          simp only [Any.putAll]
          go_frame
          simp only [Nat.zero_add, Nat.reduceAdd]
          rw [h11]
          clear h11
          obtain ⟨d0, d1, d2, d3, d4⟩ := HC.out.below HBEL5.out HBB.out
          simp only at d0 d1 d2 d3 d4
          have c0 := cell_blk HBOX5.out 0
          have c1 := cell_blk HBOX5.out 1
          have c2 := cell_blk HBOX5.out 2
          have c3 := cell_blk HBOX5.out 3
          have c4 := cell_blk HBOX5.out 4
          simp only [List.getElem?_toArray, List.getElem?_cons_succ, List.getElem?_cons_zero] at c0 c1 c2 c3 c4
          clear d0 d1 d2 d3 d4
          go_wp2_with (first
            | (((with_reducible refine Any.wpl_push ?_ ?_ ?_ Tryz.underlying26 HI.out.1 HI.out.2.1 HI.out.2.2.1 HI.out.2.2.2 ?_ (by decide) ?_ (HX1.out) (HOWN5.out) HL5.out.1 HL5.out.2.1 HL5.out.2.2 ?_); rfl; rfl; rfl; rfl; rfl; intro v1 w1 hown1 hgrow1 hwho1); have HB1 := Lib.hid (put_keep HOWN5.out HBEL5.out HBOX5.out hgrow1); have HOWN1 := Lib.hid hown1; obtain ⟨e0, e1, e2, e3, e4⟩ := HC.out.below HB1.out.1 HBB.out; simp only at e0 e1 e2 e3 e4
               have HL1 : Hid (out.length + 1 + 1 ≤ maxLen ∧ (out.length + 1 + 1) * 80 ≤ 140737488355328 ∧ w.heap.size + 1 ≤ w1.heap.size) := Lib.hid ⟨HL.out.1, HL.out.2.1, Nat.le_trans HL5.out.2.2 hgrow1.size⟩
               clear hown1 hgrow1 hwho1)
            | (((with_reducible refine Any.wpl_push ?_ ?_ ?_ Tryz.underlying26 HI.out.1 HI.out.2.1 HI.out.2.2.1 HI.out.2.2.2 ?_ (by decide) ?_ (HONE.out) (HOWN1.out) HL1.out.1 HL1.out.2.1 HL1.out.2.2 ?_); rfl; rfl; rfl; rfl; rfl; intro v2 w2 hown2 hgrow2 hwho2); have HB2 := Lib.hid (put_keep HOWN1.out HB1.out.1 HB1.out.2 hgrow2); have HOWN2 := Lib.hid hown2; clear hown2 hgrow2 hwho2)
            | fail)
          go_roundw
          case rel => exact ⟨k + 1, out ++ [⟨⟨xn, xh, xo, xl, xd⟩, xv⟩] ++ [⟨⟨yn, yh, yo, yl, yd⟩, yv⟩], true, by omega, by go_num, rfl, by have := HOWN2.out; simpa [rvCells_snoc, rvCells, Rv.row, Rv.cells] using this, HB2.out.1, HB2.out.2, by rw [HPUT.out]; show out ++ F k = _; rw [HQ.out]; simp [pick2], by simp; omega⟩
          case measure => (simp [intOf]) <;> omega
      · go_wp2_with fail
        refine Any.region_lit (fun
          | 0 => Any.val (.bool true)
          | 1 => Any.val (.bool false)
          | 2 => Any.val (.bool false)
          | 3 => Any.idle
          | 4 => Any.idle
          | 5 => Any.idle
          | 6 => Any.idle
          | 7 => Any.idle
          | 8 => Any.idle
          | 9 => Any.idle
          | 10 => Any.idle
          | 11 => Any.val (.bool false)
          | _ => Any.idle) (by kernel_rfl) (by kernel_rfl) (by kernel_rfl) ?_ ?_ ?_
        · intro i _
          match i with
          | 0 => exact Any.lasts_val _
          | 1 => exact Any.lasts_val _
          | 2 => exact Any.lasts_val _
          | 3 => exact Any.lasts_idle
          | 4 => exact Any.lasts_idle
          | 5 => exact Any.lasts_idle
          | 6 => exact Any.lasts_idle
          | 7 => exact Any.lasts_idle
          | 8 => exact Any.lasts_idle
          | 9 => exact Any.lasts_idle
          | 10 => exact Any.lasts_idle
          | 11 => exact Any.lasts_val _
          | n + 12 => exact Any.lasts_idle
        · refine ⟨?_, ?_, ?_, ?_, ?_, ?_, ?_, ?_, ?_, ?_, ?_, ?_, trivial⟩
          · refine Any.owes_plain rfl fun ρ wo hs' hb hc' => ?_
            have h6 : ρ (.tmp 6) = .bool true := hs'.old' 6 (by kernel_rfl)
            exact Any.ok_move (Any.post_val hb rfl h6)
          · refine Any.owes_plain rfl fun ρ wo hs' hb hc' => ?_
            have h15 : ρ (.tmp 15) = .bool true := hs'.new' 15 0 (by kernel_rfl)
            go_simp
            exact Any.post_val hb rfl rfl
          · refine Any.owes_plain rfl fun ρ wo hs' hb hc' => ?_
            have h16 : ρ (.tmp 16) = .bool false := hs'.new' 16 1 (by kernel_rfl)
            exact Any.ok_move (Any.post_val hb rfl h16)
          · exact Any.owes_off rfl rfl (by kernel_rfl) rfl (by decide) rfl
          · exact Any.owes_off rfl rfl (by kernel_rfl) rfl (by decide) rfl
          · exact Any.owes_off rfl rfl (by kernel_rfl) rfl (by decide) rfl
          · exact Any.owes_off rfl rfl (by kernel_rfl) rfl (by decide) rfl
          · exact Any.owes_off rfl rfl (by kernel_rfl) rfl (by decide) rfl
          · exact Any.owes_off rfl rfl (by kernel_rfl) rfl (by decide) rfl
          · exact Any.owes_off rfl rfl (by kernel_rfl) rfl (by decide) rfl
          · exact Any.owes_off rfl rfl (by kernel_rfl) rfl (by decide) rfl
          · refine Any.owes_plain rfl fun ρ wo hs' hb hc' => ?_
            have h17 : ρ (.tmp 17) = .bool false := hs'.new' 17 2 (by kernel_rfl)
            go_simp
            exact Any.post_val hb rfl rfl
        intro vals w5 hb hk ha
        have h11 : vals 11 = .bool false := hk 11 (by kernel_rfl)
        have HOWN5 := Lib.hid (ownsRow_below HOWN.out hb)
        have HBOX5 := Lib.hid (blk hb (lt_blk HBOX.out) HBOX.out)
        have HL5 : Hid (out.length + 1 ≤ maxLen ∧ (out.length + 1) * 80 ≤ 140737488355328 ∧ w.heap.size + 1 ≤ w5.heap.size) := Lib.hid ⟨HLA.out.1, HLA.out.2.1, Nat.le_trans HLA.out.2.2 hb.size⟩
        have HBEL5 := Lib.hid (HBEL.out.trans (hb.mono HBEL.out.size))
        clear hk ha hb
        simp only [Any.putAll]
        go_frame
        simp only [Nat.zero_add, Nat.reduceAdd]
        rw [h11]
        clear h11
        obtain ⟨d0, d1, d2, d3, d4⟩ := HC.out.below HBEL5.out HBB.out
        simp only at d0 d1 d2 d3 d4
        go_wp2_with (first
          | (((with_reducible refine Any.wpl_push ?_ ?_ ?_ Tryz.underlying26 HI.out.1 HI.out.2.1 HI.out.2.2.1 HI.out.2.2.2 ?_ (by decide) ?_ (HONE.out) (HOWN5.out) HL5.out.1 HL5.out.2.1 HL5.out.2.2 ?_); rfl; rfl; rfl; rfl; rfl; intro v1 w1 hown1 hgrow1 hwho1); have HB1 := Lib.hid (put_keep HOWN5.out HBEL5.out HBOX5.out hgrow1); have HOWN1 := Lib.hid hown1; clear hown1 hgrow1 hwho1)
          | fail)
        go_roundw
        case rel => exact ⟨k + 1, out ++ [⟨⟨yn, yh, yo, yl, yd⟩, yv⟩], true, by omega, by go_num, rfl, by have := HOWN1.out; simpa [rvCells_snoc, Rv.cells] using this, HB1.out.1, HB1.out.2, by rw [HPUT.out]; show out ++ M.drop k = _; rw [HM1.out]; simp [pick2], by simp; omega⟩
        case measure => (simp [intOf]) <;> omega
    · have HD : Hid (P = out ++ pick2 done [] [⟨⟨xn, xh, xo, xl, xd⟩, xv⟩]) := Lib.hid (by rw [HPUT.out, HF.out, List.drop_eq_nil_of_le (by omega)]; rfl)
      clear hbel hbox
      cases done
      · go_wp2_with (first
          | (((with_reducible refine Any.wpl_push ?_ ?_ ?_ Tryz.underlying26 HI.out.1 HI.out.2.1 HI.out.2.2.1 HI.out.2.2.2 ?_ (by decide) ?_ (HX1.out) (HOWN.out) HLA.out.1 HLA.out.2.1 HLA.out.2.2 ?_); rfl; rfl; rfl; rfl; rfl; intro v1 w1 hown1 hgrow1 hwho1); have HB1 := Lib.hid (put_keep HOWN.out HBEL.out HBOX.out hgrow1); have HOWN1 := Lib.hid hown1; clear hown1 hgrow1 hwho1)
          | fail)
        go_ret
        exact retRow (B := w.heap.size + 1) (by have := HOWN1.out; rw [HD.out]; simpa [pick2, rvCells_snoc, Rv.cells] using this) (by omega) HB1.out.1
      · clear c0 c1 c2 c3 c4
        go_wp2_with fail
        go_ret
        exact retRow (B := w.heap.size + 1) (by have := HOWN.out; rw [HD.out]; simpa [pick2] using this) (by omega) HBEL.out
end Go.Proofs.YticnmmfiadpbbaaGreat.Sc
