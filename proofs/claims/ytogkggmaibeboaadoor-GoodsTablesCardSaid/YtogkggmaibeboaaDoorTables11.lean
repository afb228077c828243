/- Whether any goods may be, and stand in one table, and which one is found by any code, is just the document's. No condition. -/
import Derived.Test.YtogkggmaibeboaaDoorAwake11
import Derived.Test.YtogkggmaibeboaaDoorEq11
import Derived.Test.YtogkggmaibeboaaDoorLawD11
namespace Go.Proofs.YtogkggmaibeboaaDoor.goodsTables
open Go.ChangeShapes Go.WideShapes Go.ChangeAt Go.RowKit Go Sc
set_option maxRecDepth 100000

set_option maxHeartbeats 16000000 in
theorem walk (w : World) (hap : ApT w) (l : List Gd) (v : Value) (hs : Sl w 4 v (l.map Gd.row)) (hf : ∀ g ∈ l, g.fit) (code : ByteArray) (_ : code.size ≤ maxLen) :
    Calls Tryd.prog 5 #[v, .string code] w (RetB w true) := by
  have HAW := Lib.hid (awake_any w hap)
  have HFE := Lib.hid (fun W (hW : Below w.heap.size w W) => few_any l v W (hs.below hW (Nat.le_refl _)))
  obtain ⟨a, c, rfl⟩ : ∃ a c, v = .slice a l.length c := by simpa using hs.shape
  have HS := Lib.hid hs
  have HF := Lib.hid hf
  clear hap hs hf
  go_enter Tryd.func5, Tryd.ntmps5
  go_wp2_with (first
    | ((with_reducible refine HAW.out.mono ?_); rintro e w1 ⟨rfl, hb1⟩; have HB := Lib.hid hb1; clear hb1)
    | fail)
  refine (HFE.out _ HB.out).mono ?_
  rintro e w2 ⟨b, rfl, hb, hb2⟩
  have HB := Lib.hid (HB.out.trans (hb2.mono HB.out.size))
  clear hb2
  by_cases hgo : b = true ∧ code.size ≤ 60
  rotate_left
  · have HG := Lib.hid hgo
    clear hb hgo
    cases b with
    | false =>
      go_wp2_with fail
      go_ret
      exact ⟨rfl, HB.out⟩
    | true =>
      have t1 : decide ((60 : Int) < (code.size : Int)) = true := decide_eq_true (by have := HG.out; simp at this; omega)
      go_wp2_with fail
      go_ret
      exact ⟨rfl, HB.out⟩
  obtain ⟨rfl, h60⟩ := hgo
  have t1 : decide ((60 : Int) < (code.size : Int)) = false := decide_eq_false (by omega)
  have HL : Hid (l.length ≤ 41) := Lib.hid (hb rfl)
  clear hb h60
  have hll : l.length ≤ 9223372036854775807 := by have := HL.out; omega
  go_wp2_with fail
  go_loopw [5] (fun i wr => ∃ k : Nat, k ≤ l.length ∧ i = .int .i64 k ∧ Below w.heap.size w wr) (fun i _ => l.length - (intOf i).toNat)
  case atStart => exact ⟨0, Nat.zero_le _, rfl, HB.out⟩
  case round =>
    obtain ⟨k, hk, rfl, hbel⟩ := hrel
    have HBEL := Lib.hid hbel
    by_cases hlt : k < l.length
    · obtain ⟨b, off, rfl, -, hb, hc⟩ := HS.out.at (i := k) (by simpa using hlt)
      have HD : Hid (∀ W, Below w.heap.size w W → W.cell? ⟨b, off + k * 4, none⟩ = some (.string l[k].code) ∧ W.cell? ⟨b, off + k * 4 + 1, none⟩ = some (.int .i64 l[k].cls) ∧ W.cell? ⟨b, off + k * 4 + 2, none⟩ = some (.int .i64 l[k].wt) ∧ W.cell? ⟨b, off + k * 4 + 3, none⟩ = some (.int .i64 l[k].vol)) := Lib.hid (fun W hW =>
        ⟨(hW.cell (p := ⟨b, off + k * 4, none⟩) hb).trans (hc k l[k].row (by simp [hlt]) 0 _ rfl), (hW.cell (p := ⟨b, off + k * 4 + 1, none⟩) hb).trans (hc k l[k].row (by simp [hlt]) 1 _ rfl), (hW.cell (p := ⟨b, off + k * 4 + 2, none⟩) hb).trans (hc k l[k].row (by simp [hlt]) 2 _ rfl), (hW.cell (p := ⟨b, off + k * 4 + 3, none⟩) hb).trans (hc k l[k].row (by simp [hlt]) 3 _ rfl)⟩)
      have HFK := Lib.hid (HF.out l[k] (List.getElem_mem hlt))
      have tk : ((k : Nat) : Int) < (l.length : Int) := by omega
      clear hc hbel
      generalize l[k] = x at *
      obtain ⟨xn, xc, xw, xv⟩ := x
      simp only at HD
      have MAY := Lib.hid (fun W => mayG_any ⟨xn, xc, xw, xv⟩ W HFK.out)
      have RMAY := Lib.hid (fun W => refMayG_any ⟨xn, xc, xw, xv⟩ W HFK.out)
      simp only [Gd.val] at MAY RMAY
      generalize gdOk ⟨xn, xc, xw, xv⟩ = p at *
      have tp : (p != p) = false := by simp
      go_wp2_with fail
      refine Any.region_lit (fun
        | 0 => Any.val (.slice (some ⟨b, off, none⟩) l.length c)
        | 1 => Any.val (.int .i64 (k : Int))
        | 2 => Any.val (.pointer (some ⟨b, off + k * 4, none⟩))
        | 3 => Any.val (.agg #[.string xn, .int .i64 xc, .int .i64 xw, .int .i64 xv])
        | 4 => Any.val (.bool p)
        | 5 => Any.val (.slice (some ⟨b, off, none⟩) l.length c)
        | 6 => Any.val (.int .i64 (k : Int))
        | 7 => Any.val (.pointer (some ⟨b, off + k * 4, none⟩))
        | 8 => Any.val (.agg #[.string xn, .int .i64 xc, .int .i64 xw, .int .i64 xv])
        | 9 => Any.val (.bool p)
        | 10 => Any.val (.bool false)
        | _ => Any.idle) (by kernel_rfl) (by kernel_rfl) (by kernel_rfl) ?_ ?_ ?_
      · intro i _
        match i with
        | 0 => exact Any.lasts_val _
        | 1 => exact Any.lasts_val _
        | 2 => exact Any.lasts_val _
        | 3 => exact Any.lasts_val _
        | 4 => exact Any.lasts_val _
        | 5 => exact Any.lasts_val _
        | 6 => exact Any.lasts_val _
        | 7 => exact Any.lasts_val _
        | 8 => exact Any.lasts_val _
        | 9 => exact Any.lasts_val _
        | 10 => exact Any.lasts_val _
        | n + 11 => exact Any.lasts_idle
      · refine ⟨?_, ?_, ?_, ?_, ?_, ?_, ?_, ?_, ?_, ?_, ?_, trivial⟩
        · refine Any.owes_plain rfl fun ρ wo hs' hb hc' => ?_
          have h0 : ρ (.tmp 0) = .slice (some ⟨b, off, none⟩) l.length c := hs'.old' 0 (by kernel_rfl)
          exact Any.ok_move (Any.post_val hb rfl h0)
        · refine Any.owes_plain rfl fun ρ wo hs' hb hc' => ?_
          have h5 : ρ (.tmp 5) = .int .i64 (k : Int) := hs'.old' 5 (by kernel_rfl)
          exact Any.ok_move (Any.post_val hb rfl h5)
        · refine Any.owes_plain rfl fun ρ wo hs' hb hc' => ?_
          have h28 : ρ (.tmp 28) = .slice (some ⟨b, off, none⟩) l.length c := hs'.new' 28 0 (by kernel_rfl)
          have h29 : ρ (.tmp 29) = .int .i64 (k : Int) := hs'.new' 29 1 (by kernel_rfl)
          go_simp
          exact Any.post_val hb rfl rfl
        · refine Any.owes_plain rfl fun ρ wo hs' hb hc' => ?_
          have h30 : ρ (.tmp 30) = .pointer (some ⟨b, off + k * 4, none⟩) := hs'.new' 30 2 (by kernel_rfl)
          obtain ⟨c0, c1, c2, c3⟩ := HD.out wo (HBEL.out.trans ((below_undrew hb).mono HBEL.out.size))
          go_simp
          exact Any.post_val hb rfl rfl
        · refine Any.owes_plain rfl fun ρ wo hs' hb hc' => ?_
          have h31 : ρ (.tmp 31) = .agg #[.string xn, .int .i64 xc, .int .i64 xw, .int .i64 xv] := hs'.new' 31 3 (by kernel_rfl)
          have hf := hs'.func 18
          go_simp
          exact (MAY.out wo).mono fun e w' ⟨he, hb'⟩ => ⟨_, he, Any.post_vals hb rfl rfl hb'⟩
        · refine Any.owes_plain rfl fun ρ wo hs' hb hc' => ?_
          have h0 : ρ (.tmp 0) = .slice (some ⟨b, off, none⟩) l.length c := hs'.old' 0 (by kernel_rfl)
          exact Any.ok_move (Any.post_val hb rfl h0)
        · refine Any.owes_plain rfl fun ρ wo hs' hb hc' => ?_
          have h5 : ρ (.tmp 5) = .int .i64 (k : Int) := hs'.old' 5 (by kernel_rfl)
          exact Any.ok_move (Any.post_val hb rfl h5)
        · refine Any.owes_plain rfl fun ρ wo hs' hb hc' => ?_
          have h33 : ρ (.tmp 33) = .slice (some ⟨b, off, none⟩) l.length c := hs'.new' 33 5 (by kernel_rfl)
          have h34 : ρ (.tmp 34) = .int .i64 (k : Int) := hs'.new' 34 6 (by kernel_rfl)
          go_simp
          exact Any.post_val hb rfl rfl
        · refine Any.owes_plain rfl fun ρ wo hs' hb hc' => ?_
          have h35 : ρ (.tmp 35) = .pointer (some ⟨b, off + k * 4, none⟩) := hs'.new' 35 7 (by kernel_rfl)
          obtain ⟨c0, c1, c2, c3⟩ := HD.out wo (HBEL.out.trans ((below_undrew hb).mono HBEL.out.size))
          go_simp
          exact Any.post_val hb rfl rfl
        · refine Any.owes_plain rfl fun ρ wo hs' hb hc' => ?_
          have h36 : ρ (.tmp 36) = .agg #[.string xn, .int .i64 xc, .int .i64 xw, .int .i64 xv] := hs'.new' 36 8 (by kernel_rfl)
          have hf := hs'.func 19
          go_simp
          exact (RMAY.out wo).mono fun e w' ⟨he, hb'⟩ => ⟨_, he, Any.post_vals hb rfl rfl hb'⟩
        · refine Any.owes_plain rfl fun ρ wo hs' hb hc' => ?_
          have h32 : ρ (.tmp 32) = .bool p := hs'.new' 32 4 (by kernel_rfl)
          have h37 : ρ (.tmp 37) = .bool p := hs'.new' 37 9 (by kernel_rfl)
          go_simp
          exact Any.post_val hb rfl rfl
      · intro vals w3 hb hk ha
        have h10 := hk 10 (by kernel_rfl)
        have HB3 := Lib.hid (HBEL.out.trans (hb.mono HBEL.out.size))
        clear hk ha hb
        simp only [Any.putAll]
        go_frame
        simp only [Nat.zero_add, Nat.reduceAdd]
        rw [h10]
        go_wp2_with fail
        go_roundw
        case rel => exact ⟨k + 1, by omega, by go_num, HB3.out⟩
        case measure => (simp [intOf]) <;> omega
    · have hkl : k = l.length := by omega
      have HSB := Lib.hid (fun W (hW : Below w.heap.size w W) => HS.out.below hW (Nat.le_refl _))
      clear hbel hkl
      by_cases h0 : tabC l = 0
      · have hok := tabC_ok h0
        have HNW := Lib.hid (fun W (hW : Below w.heap.size w W) => (newG_any l _ W (HSB.out W hW) (by have := HL.out; omega) HF.out).mono fun e w' h => newG_ok h h0)
        have HRN := Lib.hid (fun W (hW : Below w.heap.size w W) => refNewG_any l _ W (HSB.out W hW) (by have := HL.out; omega) HF.out)
        rw [h0] at HRN
        have HGE := Lib.hid (fun bt bm W (h : Tab W bt bm l) => get_any l bt bm code W h hok.2.1)
        have HFI := Lib.hid (fun W (hW : Below w.heap.size w W) => gFind_any l code _ W (HSB.out W hW))
        rcases gFind_of code l 0 with ⟨h1, h2⟩ | ⟨j, hj, h1, h2⟩
        · rw [h1] at HFI
          have hg : getV l code = .tuple #[.agg #[.string ⟨#[]⟩, .int .i64 0, .int .i64 0, .int .i64 0], .bool false] := by rw [getV, h2]
          rw [hg] at HGE
          clear h0 hok h1 h2 hg
          go_wp2_with (first
            | ((with_reducible refine (HNW.out _ HBEL.out).mono ?_); rintro e w3 ⟨bt, bm, rfl, ht3, hb3⟩; have HT := Lib.hid ht3; have HB := Lib.hid (HBEL.out.trans (hb3.mono HBEL.out.size)); clear ht3 hb3)
            | ((with_reducible refine (HRN.out _ HB.out).mono ?_); rintro e w4 ⟨rfl, hb4⟩; have HT := Lib.hid (HT.out.below hb4); have HB := Lib.hid (HB.out.trans (hb4.mono HB.out.size)); clear hb4)
            | ((with_reducible refine (HGE.out _ _ _ HT.out).mono ?_); rintro e w5 ⟨rfl, hb5⟩; have HB := Lib.hid (HB.out.trans (hb5.mono HB.out.size)); clear hb5)
            | ((with_reducible refine (HFI.out _ (HB.out.alloc HB.out.size _)).mono ?_); rintro e w6 ⟨rfl, hb6⟩; have HX := Lib.hid (blk hb6 (lt_blk (heap_alloc_new w5 _)) (heap_alloc_new w5 _)); have HB := Lib.hid ((HB.out.alloc HB.out.size _).trans (hb6.mono (HB.out.alloc HB.out.size _).size)); obtain ⟨x0, x1, x2, x3⟩ := gd_cells HX.out; clear hb6)
            | fail)
          go_ret
          exact ⟨rfl, HB.out⟩
        · rw [h1, Nat.zero_add] at HFI
          have hg : getV l code = .tuple #[l[j].val, .bool true] := by rw [getV, h2]
          rw [hg] at HGE
          obtain ⟨b, off, rfl, -, hbb, hc⟩ := HS.out.at (i := j) (by simpa using hj)
          have hrj : (l.map Gd.row)[j]? = some l[j].row := by rw [List.getElem?_map, List.getElem?_eq_getElem hj]; rfl
          have HD : Hid (∀ W, Below w.heap.size w W → W.cell? ⟨b, off + j * 4, none⟩ = some (.string l[j].code) ∧ W.cell? ⟨b, off + j * 4 + 1, none⟩ = some (.int .i64 l[j].cls) ∧ W.cell? ⟨b, off + j * 4 + 2, none⟩ = some (.int .i64 l[j].wt) ∧ W.cell? ⟨b, off + j * 4 + 3, none⟩ = some (.int .i64 l[j].vol)) := Lib.hid (fun W hW =>
            ⟨(hW.cell (p := ⟨b, off + j * 4, none⟩) hbb).trans (hc j _ hrj 0 _ rfl), (hW.cell (p := ⟨b, off + j * 4 + 1, none⟩) hbb).trans (hc j _ hrj 1 _ rfl), (hW.cell (p := ⟨b, off + j * 4 + 2, none⟩) hbb).trans (hc j _ hrj 2 _ rfl), (hW.cell (p := ⟨b, off + j * 4 + 3, none⟩) hbb).trans (hc j _ hrj 3 _ rfl)⟩)
          have tj : ((j : Nat) : Int) < (l.length : Int) := by omega
          clear h0 hok h1 h2 hg hc hrj
          generalize l[j] = y at *
          obtain ⟨gn, gc, gw, gv⟩ := y
          simp only [Gd.val] at HGE
          simp only at HD
          go_wp2_with (first
            | ((with_reducible refine (HNW.out _ HBEL.out).mono ?_); rintro e w3 ⟨bt, bm, rfl, ht3, hb3⟩; have HT := Lib.hid ht3; have HB := Lib.hid (HBEL.out.trans (hb3.mono HBEL.out.size)); clear ht3 hb3)
            | ((with_reducible refine (HRN.out _ HB.out).mono ?_); rintro e w4 ⟨rfl, hb4⟩; have HT := Lib.hid (HT.out.below hb4); have HB := Lib.hid (HB.out.trans (hb4.mono HB.out.size)); clear hb4)
            | ((with_reducible refine (HGE.out _ _ _ HT.out).mono ?_); rintro e w5 ⟨rfl, hb5⟩; have HB := Lib.hid (HB.out.trans (hb5.mono HB.out.size)); clear hb5)
            | ((with_reducible refine (HFI.out _ (HB.out.alloc HB.out.size _)).mono ?_); rintro e w6 ⟨rfl, hb6⟩; have HX := Lib.hid (blk hb6 (lt_blk (heap_alloc_new w5 _)) (heap_alloc_new w5 _)); have HB := Lib.hid ((HB.out.alloc HB.out.size _).trans (hb6.mono (HB.out.alloc HB.out.size _).size)); obtain ⟨x0, x1, x2, x3⟩ := gd_cells HX.out; clear hb6)
            | fail)
          obtain ⟨bg, hbg⟩ : ∃ b, b = w5.heap.size := ⟨_, rfl⟩
          rw [← hbg] at HX ⊢
          clear hbg x0 x1 x2 x3
          refine Any.region_lit (fun
            | 0 => Any.val (.bool true)
            | 1 => Any.val (.bool true)
            | 2 => Any.val (.agg #[.string gn, .int .i64 gc, .int .i64 gw, .int .i64 gv])
            | 3 => Any.val (.slice (some ⟨b, off, none⟩) l.length c)
            | 4 => Any.val (.int .i64 (j : Int))
            | 5 => Any.val (.pointer (some ⟨b, off + j * 4, none⟩))
            | 6 => Any.val (.agg #[.string gn, .int .i64 gc, .int .i64 gw, .int .i64 gv])
            | 7 => Any.val (.bool true)
            | 8 => Any.val (.bool true)
            | 9 => Any.val (.bool true)
            | _ => Any.idle) (by kernel_rfl) (by kernel_rfl) (by kernel_rfl) ?_ ?_ ?_
          · intro i _
            match i with
            | 0 => exact Any.lasts_val _
            | 1 => exact Any.lasts_val _
            | 2 => exact Any.lasts_val _
            | 3 => exact Any.lasts_val _
            | 4 => exact Any.lasts_val _
            | 5 => exact Any.lasts_val _
            | 6 => exact Any.lasts_val _
            | 7 => exact Any.lasts_val _
            | 8 => exact Any.lasts_val _
            | 9 => exact Any.lasts_val _
            | n + 10 => exact Any.lasts_idle
          · refine ⟨?_, ?_, ?_, ?_, ?_, ?_, ?_, ?_, ?_, ?_, trivial⟩
            · refine Any.owes_plain rfl fun ρ wo hs' hb hc' => ?_
              have h10 : ρ (.tmp 10) = .bool true := hs'.old' 10 (by kernel_rfl)
              exact Any.ok_move (Any.post_val hb rfl h10)
            · refine Any.owes_plain rfl fun ρ wo hs' hb hc' => ?_
              have h72 : ρ (.tmp 72) = .bool true := hs'.new' 72 0 (by kernel_rfl)
              exact Any.ok_move (Any.post_val hb rfl h72)
            · refine Any.owes_on rfl rfl (by kernel_rfl) rfl fun ρ wo hs' hb hc' => ?_
              have h9 : ρ (.tmp 9) = .pointer (some ⟨bg, 0, none⟩) := hs'.old' 9 (by kernel_rfl)
              obtain ⟨c0, c1, c2, c3⟩ := gd_cells (blk (below_undrew hb) (lt_blk HX.out) HX.out)
              go_simp
              exact Any.post_val hb rfl rfl
            · refine Any.owes_on rfl rfl (by kernel_rfl) rfl fun ρ wo hs' hb hc' => ?_
              have h0 : ρ (.tmp 0) = .slice (some ⟨b, off, none⟩) l.length c := hs'.old' 0 (by kernel_rfl)
              exact Any.ok_move (Any.post_val hb rfl h0)
            · refine Any.owes_on rfl rfl (by kernel_rfl) rfl fun ρ wo hs' hb hc' => ?_
              have h11 : ρ (.tmp 11) = .int .i64 (j : Int) := hs'.old' 11 (by kernel_rfl)
              exact Any.ok_move (Any.post_val hb rfl h11)
            · refine Any.owes_on rfl rfl (by kernel_rfl) rfl fun ρ wo hs' hb hc' => ?_
              have h75 : ρ (.tmp 75) = .slice (some ⟨b, off, none⟩) l.length c := hs'.new' 75 3 (by kernel_rfl)
              have h76 : ρ (.tmp 76) = .int .i64 (j : Int) := hs'.new' 76 4 (by kernel_rfl)
              go_simp
              exact Any.post_val hb rfl rfl
            · refine Any.owes_on rfl rfl (by kernel_rfl) rfl fun ρ wo hs' hb hc' => ?_
              have h77 : ρ (.tmp 77) = .pointer (some ⟨b, off + j * 4, none⟩) := hs'.new' 77 5 (by kernel_rfl)
              obtain ⟨c0, c1, c2, c3⟩ := HD.out wo (HB.out.trans ((below_undrew hb).mono HB.out.size))
              go_simp
              exact Any.post_val hb rfl rfl
            · refine Any.owes_on rfl rfl (by kernel_rfl) rfl fun ρ wo hs' hb hc' => ?_
              have h74 : ρ (.tmp 74) = .agg #[.string gn, .int .i64 gc, .int .i64 gw, .int .i64 gv] := hs'.new' 74 2 (by kernel_rfl)
              have h78 : ρ (.tmp 78) = .agg #[.string gn, .int .i64 gc, .int .i64 gw, .int .i64 gv] := hs'.new' 78 6 (by kernel_rfl)
              have t2 := fun w => run_eql_gd w ⟨gn, gc, gw, gv⟩ ⟨gn, gc, gw, gv⟩
              simp only [gdEq_self, Gd.cells] at t2
              have t3 := gdGuard
              go_simp
              exact Any.post_val hb rfl rfl
            · refine Any.owes_plain rfl fun ρ wo hs' hb hc' => ?_
              have h73 : ρ (.tmp 73) = .bool true := hs'.new' 73 1 (by kernel_rfl)
              have h79 : ρ (.tmp 79) = .bool true := hs'.new' 79 7 (by kernel_rfl)
              exact Any.ok_pick (b := true) h73 (Any.post_val hb rfl h79)
            · refine Any.owes_plain rfl fun ρ wo hs' hb hc' => ?_
              have h80 : ρ (.tmp 80) = .bool true := hs'.new' 80 8 (by kernel_rfl)
              exact Any.ok_assign (Any.post_val hb rfl h80)
          · intro vals w7 hb hk ha
            have h9 := hk 9 (by kernel_rfl)
            have HB7 := Lib.hid (HB.out.trans (hb.mono HB.out.size))
            clear hk ha hb
            simp only [Any.putAll]
            go_frame
            simp only [Nat.zero_add, Nat.reduceAdd]
            rw [h9]
            go_wp2_with fail
            go_ret
            exact ⟨rfl, HB7.out⟩
      · obtain ⟨q, hq⟩ : ∃ q, q = tabC l := ⟨_, rfl⟩
        have HNW := Lib.hid (fun W (hW : Below w.heap.size w W) => (newG_any l _ W (HSB.out W hW) (by have := HL.out; omega) HF.out).mono fun e w' h => newG_bad h h0)
        have HRN := Lib.hid (fun W (hW : Below w.heap.size w W) => refNewG_any l _ W (HSB.out W hW) (by have := HL.out; omega) HF.out)
        rw [← hq] at HNW HRN h0
        have tq : (q != 0) = true := by simp [h0]
        have tq2 : (q == q) = true := by simp
        clear h0 hq
        go_wp2_with (first
          | ((with_reducible refine (HNW.out _ HBEL.out).mono ?_); rintro e w3 ⟨rfl, hb3⟩; have HB := Lib.hid (HBEL.out.trans (hb3.mono HBEL.out.size)); clear hb3)
          | ((with_reducible refine (HRN.out _ HB.out).mono ?_); rintro e w4 ⟨rfl, hb4⟩; have HB := Lib.hid (HB.out.trans (hb4.mono HB.out.size)); clear hb4)
          | fail)
        go_ret
        exact ⟨rfl, HB.out⟩

theorem lifted (os : Os) (started : os.Started) (H : Type) (enc : TypeId × Value → H) :
    ReturnsInHanded {} Tryd.checked os 5 .any (fun w args => (Rows.goodsTablesSpec.pre enc Tryd.prog Tryd.f5 [] false w args ∧ laidMetH Tryd.prog laidA w) ∧ sizedMet enc Tryd.prog Tryd.f5 (OpenSpec.ofChange Rows.goodsTablesSpec) false w args) (Rows.goodsTablesSpec.post enc Tryd.prog Tryd.f5 false true false false) := by
  refine law_liftedD os started (by kernel_rfl) Tryd.func5
    (ChangeSpec.witness_shaped (enc := enc) (C := Tryd.checked) (os := os) (X := fun w _ => laidMetH Tryd.prog laidA w) false (World.doorLaid Tryd.prog 400 os) #[.slice none 0 0, .string ⟨#[]⟩] 8 rfl (World.shaped_of_RefB (by kernel_rfl) (by kernel_rfl)) (by kernel_rfl) (by kernel_rfl) (by kernel_rfl) (door_met os _))
    (by kernel_rfl) rfl rfl ?_ ?_
  · intro vs ds W p hA
    rw [Tryd.params5] at hA
    obtain ⟨v0, vs0, d0, ds0, p0, q0, rfl, rfl, rfl, h0, r0⟩ := trodAll_cons hA
    obtain ⟨v1, vs1, d1, ds1, p1, q1, rfl, rfl, rfl, h1, r1⟩ := trodAll_cons r0
    obtain ⟨rfl, rfl, rfl⟩ := trodAll_nil r1
    rfl
  · intro W base args ds p hap hval hA
    rw [Tryd.params5] at hA hval
    obtain ⟨v0, vs0, d0, ds0, p0, q0, hargs, rfl, rfl, h0, r0⟩ := trodAll_cons hA
    obtain ⟨v1, vs1, d1, ds1, p1, q1, rfl, rfl, rfl, h1, r1⟩ := trodAll_cons r0
    obtain ⟨rfl, rfl, rfl⟩ := trodAll_nil r1
    obtain rfl : args = #[v0, v1] := by cases args; simp_all
    obtain ⟨l0, hs0, hf0⟩ := open_goods (hval 0 24 v0 rfl rfl) h0
    obtain ⟨a1, rfl, rfl, rfl, w1⟩ := Go.ChangeMaps.open_string Tryd.underlying9 (hval 1 9 v1 rfl rfl) h1
    exact walk W hap l0 v0 hs0 hf0 a1 w1

theorem over : Rows.goodsTablesRow.holds Tryd.pinned (OpenSpec.ofChange Rows.goodsTablesSpec) :=
  OpenClaim.holds_of_wide 5 Tryd.f5 rfl rfl rfl rfl rfl rfl rfl ⟨rfl, rfl, rfl, rfl, rfl⟩ rfl rfl rfl rfl rfl (by kernel_rfl) Tryd.func5 (by kernel_rfl)
    (of_decide_eq_true (by kernel_rfl)) (by unfold Func.isWrapper; rw [if_neg (by decide +kernel)]; exact ⟨rfl, rfl⟩)
    (fun os started H enc _ => lifted os started H enc)

/-- The statement. -/
theorem proved : Rows.GoodsTablesCardSaid :=
  Claim7.holds_tied_plain_at .later [] [.data] true _ false
    over (fun _ h => by cases h) (by kernel_rfl) (fun _ h => by cases h) goodsTables_row_tie rfl ⟨rfl, rfl⟩ (by kernel_rfl) rfl
    (fun f fn hf hfn => by
      obtain rfl : f = 5 := Option.some.inj (hf.symm.trans (by kernel_rfl))
      obtain rfl : fn = Tryd.f5 := (Option.some.inj (Tryd.func5.symm.trans hfn)).symm
      exact ⟨by kernel_rfl, fun j t ht => by
        have hall : (Tryd.f5.params.toList.all fun u => !Tryd.prog.wantsStandIn u) = true := by kernel_rfl
        have hm : t ∈ Tryd.f5.params.toList := by simpa using Array.mem_of_getElem? ht
        exact (show Tryd.prog.wantsStandIn t = false by simpa using List.all_eq_true.1 hall t hm)⟩)
    (by kernel_rfl)
#print axioms proved
end Go.Proofs.YtogkggmaibeboaaDoor.goodsTables
