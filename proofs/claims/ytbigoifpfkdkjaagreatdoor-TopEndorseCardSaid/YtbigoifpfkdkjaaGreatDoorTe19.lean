/- The reference's sums. Which classes lie apart: the program's table, the document's rows. -/
import Derived.Test.YtbigoifpfkdkjaaGreatDoorTe18
import Derived.Test.YtbigoifpfkdkjaaGreatDoorTe01
namespace Go.Proofs.YtbigoifpfkdkjaaGreatDoor.Sc
open Go Go.RowKit Go.ChangeShapes Go.WideShapes Go.ChangeAt
set_option maxRecDepth 100000

/-- What all pieces of a lot have together. -/
def tmL (t : List Gd) (f : Gd → Int) (x : Lt) : Int := match gOf t x.good with
  | some g => x.cnt * f g
  | none => 0
def sumL (t : List Gd) (f : Gd → Int) : List Lt → Int
  | [] => 0
  | x :: r => tmL t f x + sumL t f r
def sumV (t : List Gd) (f : Gd → Int) (l : List Lt) : Value :=
  if lotsC t l = 0 then (if 1099511627776 < sumL t f l then .tuple #[.int .i64 0, .int .i64 3] else .tuple #[.int .i64 (sumL t f l), .int .i64 0]) else .tuple #[.int .i64 0, .int .i64 (lotsC t l)]
theorem sumV_pair (t : List Gd) (f : Gd → Int) (l : List Lt) : ∃ x y : Int, sumV t f l = .tuple #[.int .i64 x, .int .i64 y] := by
  unfold sumV
  split
  · split <;> exact ⟨_, _, rfl⟩
  · exact ⟨_, _, rfl⟩
theorem sumL_append (t : List Gd) (f : Gd → Int) (a b : List Lt) : sumL t f (a ++ b) = sumL t f a + sumL t f b := by
  induction a with
  | nil => simp [sumL]
  | cons x r ih => simp only [List.cons_append, sumL, ih]; omega
theorem sumL_next (t : List Gd) (f : Gd → Int) {l : List Lt} {k : Nat} (h : k < l.length) : sumL t f (l.take (k + 1)) = sumL t f (l.take k) + tmL t f l[k] := by
  rw [List.take_succ_eq_append_getElem h, sumL_append]
  simp [sumL]
/-- The two that are asked for. -/
def isSel (b : Bool) : Gd → Int := if b then Gd.vol else Gd.wt
theorem gd_range {g : Gd} (h : gdOk g = true) : (1 ≤ g.wt ∧ g.wt ≤ 1048576) ∧ (1 ≤ g.vol ∧ g.vol ≤ 1048576) ∧ 0 ≤ g.cls ∧ g.cls < 10 := by
  simp only [gdOk, cntOk, Bool.and_eq_true, decide_eq_true_eq] at h
  omega
def SelOk (t : List Gd) (f : Gd → Int) : Prop := ∀ g ∈ t, 1 ≤ f g ∧ f g ≤ 1048576
theorem sel_wt {t : List Gd} (h : ∀ g ∈ t, gdOk g = true) : SelOk t Gd.wt := fun g hg => (gd_range (h g hg)).1
theorem sel_vol {t : List Gd} (h : ∀ g ∈ t, gdOk g = true) : SelOk t Gd.vol := fun g hg => (gd_range (h g hg)).2.1
theorem lot_range {x : Lt} (h : lotOk x = true) : 1 ≤ x.cnt ∧ x.cnt ≤ 1048576 := by
  simp only [lotOk, cntOk, Bool.and_eq_true, decide_eq_true_eq] at h
  omega
theorem tmL_range {t : List Gd} {f : Gd → Int} {x : Lt} {g : Gd} (hx : lotOk x = true) (hg : gOf t x.good = some g) (hs : SelOk t f) : 1 ≤ tmL t f x ∧ tmL t f x ≤ 1099511627776 := by
  have h1 := lot_range hx
  have h2 := hs g (gOf_mem hg).1
  rw [tmL, hg]
  simp only
  constructor
  · have := Int.mul_le_mul h1.1 h2.1 (by decide) (by omega)
    simpa using this
  · have := Int.mul_le_mul h1.2 h2.2 (by omega) (by decide)
    simpa using this
theorem sumL_nonneg {t : List Gd} {f : Gd → Int} {l : List Lt} (hl : ∀ x ∈ l, lotOk x = true ∧ ∃ g, gOf t x.good = some g) (hs : SelOk t f) (k : Nat) : 0 ≤ sumL t f (l.take k) := by
  have : ∀ m : List Lt, (∀ x ∈ m, lotOk x = true ∧ ∃ g, gOf t x.good = some g) → 0 ≤ sumL t f m := by
    intro m
    induction m with
    | nil => simp [sumL]
    | cons x r ih =>
      intro h
      obtain ⟨h1, g, h2⟩ := h x List.mem_cons_self
      have h3 := tmL_range h1 h2 hs
      have h4 := ih (fun y hy => h y (List.mem_cons_of_mem _ hy))
      simp only [sumL]; omega
  exact this _ (fun x hx => hl x (List.mem_of_mem_take hx))
theorem sumL_le {t : List Gd} {f : Gd → Int} {l : List Lt} (hl : ∀ x ∈ l, lotOk x = true ∧ ∃ g, gOf t x.good = some g) (hs : SelOk t f) (k : Nat) : sumL t f (l.take k) ≤ sumL t f l := by
  have h1 := sumL_append t f (l.take k) (l.drop k)
  rw [List.take_append_drop] at h1
  have h2 := sumL_nonneg (l := l.drop k) (fun x hx => hl x (List.mem_of_mem_drop hx)) hs (l.drop k).length
  rw [List.take_length] at h2
  omega
theorem sumW_any_cl (g : Gd) (w : World) : Calls Tryz.prog 85 #[g.val] w (Ret w (.int .i64 (Gd.wt g))) := by
  obtain ⟨n, c, wt, vo⟩ := g
  simp only [Gd.val]
  go_enter Tryz.func85, Tryz.ntmps85
  go_wp2
  go_ret
  exact ⟨rfl, one_below _ _⟩
set_option maxHeartbeats 8000000 in
theorem sumW_any (t : List Gd) (l : List Lt) (bt bm : Nat) (v : Value) (w : World) (hs : Sl w 2 v (l.map Lt.row)) (htab : Tab w bt bm t) (hn : (codes t).Nodup) (hok : ∀ g ∈ t, gdOk g = true) :
    Calls Tryz.prog 84 #[.pointer (some ⟨bt, 0, none⟩), v, .func (.func 85) #[] #[]] w (Ret w (sumV t Gd.wt l)) := by
  have hll : l.length ≤ 9223372036854775807 := by have := hs.len_le; simp only [List.length_map, maxLen] at this; omega
  have HKN := Lib.hid (known_any t l bt bm v w hs htab hn)
  obtain ⟨a, c, rfl⟩ : ∃ a c, v = .slice a l.length c := by simpa using hs.shape
  have HS := Lib.hid hs
  have HTB0 := Lib.hid htab.1
  have HMP0 := Lib.hid htab.2
  have HND := Lib.hid hn
  have HOK := Lib.hid hok
  clear hs htab hn hok
  by_cases h0 : lotsC t l = 0
  rotate_left
  · obtain ⟨e, he⟩ : ∃ e, e = lotsC t l := ⟨_, rfl⟩
    have HQ : Hid (sumV t Gd.wt l = .tuple #[.int .i64 0, .int .i64 e]) := Lib.hid (by rw [sumV, if_neg h0, he])
    rw [← he] at HKN h0
    have te : (e != 0) = true := by simp [h0]
    clear h0 he
    go_enter Tryz.func84, Tryz.ntmps84
    go_wp2_with (first
      | ((with_reducible refine HKN.out.mono ?_); rintro e' w2 ⟨rfl, hb2⟩; have HB := Lib.hid hb2; clear hb2)
      | fail)
    go_ret2
    exact ⟨by rw [HQ.out]; rfl, HB.out⟩
  have HV : Hid (sumV t Gd.wt l = if 1099511627776 < sumL t Gd.wt l then .tuple #[.int .i64 0, .int .i64 3] else .tuple #[.int .i64 (sumL t Gd.wt l), .int .i64 0]) := Lib.hid (by rw [sumV, if_pos h0])
  have HLO := Lib.hid (lotsC_ok h0)
  rw [h0] at HKN
  clear h0
  go_enter Tryz.func84, Tryz.ntmps84
  go_wp2_with (first
    | ((with_reducible refine HKN.out.mono ?_); rintro e' w2 ⟨rfl, hb2⟩; have HBK := Lib.hid hb2; clear hb2)
    | fail)
  go_loopw [9, 11, 20] (fun s _ i wr => ∃ k : Nat, k ≤ l.length ∧ i = .int .i64 k ∧ s = .int .i64 (sumL t Gd.wt (l.take k)) ∧ sumL t Gd.wt (l.take k) ≤ 1099511627776 ∧ Below w.heap.size w wr) (fun _ _ i _ => l.length - (intOf i).toNat)
  case atStart => exact ⟨0, Nat.zero_le _, rfl, rfl, (by simp [sumL]), HBK.out⟩
  case round =>
    obtain ⟨k, hk, rfl, rfl, hsr, hbel⟩ := hrel
    have HBEL := Lib.hid hbel
    by_cases hlt : k < l.length
    · obtain ⟨b, off, rfl, -, hb, hc⟩ := HS.out.at (i := k) (by simpa using hlt)
      have d0 := (hbel.cell (p := ⟨b, off + k * 2, none⟩) hb).trans (hc k l[k].row (by simp [hlt]) 0 _ rfl)
      have d1 := (hbel.cell (p := ⟨b, off + k * 2 + 1, none⟩) hb).trans (hc k l[k].row (by simp [hlt]) 1 _ rfl)
      have hnx := sumL_next t Gd.wt (k := k) hlt
      have hle := sumL_le (t := t) (f := Gd.wt) HLO.out (sel_wt HOK.out) (k + 1)
      have h0 := sumL_nonneg (t := t) (f := Gd.wt) HLO.out (sel_wt HOK.out) k
      obtain ⟨hlo, ⟨g, hgo⟩⟩ := HLO.out l[k] (List.getElem_mem hlt)
      have htm := tmL_range (t := t) (f := Gd.wt) hlo hgo (sel_wt HOK.out)
      have hte : tmL t Gd.wt l[k] = l[k].cnt * Gd.wt g := by rw [tmL, hgo]
      generalize l[k] = x at *
      obtain ⟨xn, xc⟩ := x
      obtain ⟨gn, gc, gw, gv⟩ := g
      simp only at d0 d1 hgo hte
      have hg := gEnts_get HND.out xn
      have HGT : Hid (Mp.mget (gEnts t) xn = some (.agg #[.string gn, .int .i64 gc, .int .i64 gw, .int .i64 gv])) := Lib.hid (by rw [hg, hgo]; rfl)
      obtain ⟨S, hS⟩ : ∃ S, S = sumL t Gd.wt (l.take k) := ⟨_, rfl⟩
      obtain ⟨S2, hS2⟩ : ∃ S, S = sumL t Gd.wt (l.take (k + 1)) := ⟨_, rfl⟩
      obtain ⟨q, hq⟩ : ∃ q, q = tmL t Gd.wt ⟨xn, xc⟩ := ⟨_, rfl⟩
      rw [← hS, ← hS2, ← hq] at hnx
      rw [← hS] at hsr h0 ⊢
      rw [← hS2] at hle
      rw [← hq] at htm
      rw [← hq] at hte
      have HCL := Lib.hid (fun W => by have := sumW_any_cl ⟨gn, gc, gw, gv⟩ W; simpa only [Gd.val] using this)
      have HQQ : Hid (q = xc * gw) := Lib.hid hte
      have HQR : Hid (1 ≤ q ∧ q ≤ 1099511627776) := Lib.hid htm
      have HSR : Hid (0 ≤ S ∧ S ≤ 1099511627776) := Lib.hid ⟨h0, hsr⟩
      have HS2 : Hid (S2 = S + q) := Lib.hid hnx
      have HSN : Hid (S2 = sumL t Gd.wt (l.take (k + 1))) := Lib.hid hS2
      have HOV : Hid (1099511627776 < S2 → sumV t Gd.wt l = .tuple #[.int .i64 0, .int .i64 3]) := Lib.hid (fun h => by rw [HV.out, if_pos (by omega)])
      have HX0 := Lib.hid (heap_alloc_new wr (.cells #[.string xn, .int .i64 xc] 107))
      have HB0 := Lib.hid (one_below wr (.cells #[.string xn, .int .i64 xc] 107))
      clear hc hbel hnx hle h0 hlo hgo htm hte hg hS hS2 hq hsr
      go_wp2_with fail
      obtain ⟨w3, hw3⟩ : ∃ x, x = wr.alloc (.cells #[.string xn, .int .i64 xc] 107) := ⟨_, rfl⟩
      obtain ⟨bx, hbx⟩ : ∃ b, b = wr.heap.size := ⟨_, rfl⟩
      rw [← hw3] at HX0 HB0 ⊢
      rw [← hbx] at HX0 ⊢
      have HB3 := Lib.hid (HBEL.out.trans (HB0.out.mono HBEL.out.size))
      have HTC : Hid (∀ W, Below w3.heap.size w3 W → W.cell? ⟨bt, 0, none⟩ = some (.map (some bm))) := Lib.hid (fun W hW => cell_blk (blk (HB3.out.trans (hW.mono HB3.out.size)) (lt_blk HTB0.out) HTB0.out) 0)
      have HMP : Hid (∀ W, Below w3.heap.size w3 W → Mp.MapAt W bm (gEnts t)) := Lib.hid (fun W hW => HMP0.out.same ((HB3.out.trans (hW.mono HB3.out.size)).block bm HMP0.out.lt))
      have HKC : Hid (∀ W, Below w3.heap.size w3 W → W.cell? ⟨bx, 0, none⟩ = some (.string xn) ∧ W.cell? ⟨bx, 1, none⟩ = some (.int .i64 xc)) := Lib.hid (fun W hW => lt_cells (blk hW (lt_blk HX0.out) HX0.out))
      clear hw3 hbx d0 d1
      refine Any.region_lit (fun
        | 0 => Any.val (.int .i64 S)
        | 1 => Any.val (.pointer (some ⟨bx, 1, none⟩))
        | 2 => Any.val (.int .i64 xc)
        | 3 => Any.val (.func (.func 85) #[] #[])
        | 4 => Any.val (.pointer (some ⟨bt, 0, none⟩))
        | 5 => Any.val (.pointer (some ⟨bt, 0, none⟩))
        | 6 => Any.val (.pointer (some ⟨bt, 0, none⟩))
        | 7 => Any.val (.map (some bm))
        | 8 => Any.val (.pointer (some ⟨bx, 0, none⟩))
        | 9 => Any.val (.string xn)
        | 10 => Any.val (.agg #[.string gn, .int .i64 gc, .int .i64 gw, .int .i64 gv])
        | 11 => Any.val (.int .i64 gw)
        | 12 => Any.val (.int .i64 q)
        | 13 => Any.val (.int .i64 S2)
        | 14 => Any.val (.int .i64 S2)
        | _ => Any.idle) (by kernel_rfl) (by kernel_rfl) (by kernel_rfl) ?_ ?_ ?_
      · intro i _
        match i with
        | 0 => exact Any.lasts_val _
        | 1 => exact Any.lasts_val _
        | 2 => exact Any.lasts_val _
        | 3 => exact Any.lasts_val _
        | 4 => exact Any.lasts_val _
        | 5 => exact Any.lasts_val _
        | 6 => exact Any.lasts_val _
        | 7 => exact Any.lasts_val _
        | 8 => exact Any.lasts_val _
        | 9 => exact Any.lasts_val _
        | 10 => exact Any.lasts_val _
        | 11 => exact Any.lasts_val _
        | 12 => exact Any.lasts_val _
        | 13 => exact Any.lasts_val _
        | 14 => exact Any.lasts_val _
        | n + 15 => exact Any.lasts_idle
      · refine ⟨?_, ?_, ?_, ?_, ?_, ?_, ?_, ?_, ?_, ?_, ?_, ?_, ?_, ?_, ?_, trivial⟩
        · refine Any.owes_plain rfl fun ρ wo hs' hb hc' => ?_
          have h9 : ρ (.tmp 9) = .int .i64 S := hs'.old' 9 (by kernel_rfl)
          exact Any.ok_move (Any.post_val hb rfl h9)
        · refine Any.owes_plain rfl fun ρ wo hs' hb hc' => ?_
          have h11 : ρ (.tmp 11) = .pointer (some ⟨bx, 0, none⟩) := hs'.old' 11 (by kernel_rfl)
          go_simp
          exact Any.post_val hb rfl rfl
        · refine Any.owes_plain rfl fun ρ wo hs' hb hc' => ?_
          have h25 : ρ (.tmp 25) = .pointer (some ⟨bx, 1, none⟩) := hs'.new' 25 1 (by kernel_rfl)
          have c0 := (HKC.out wo (below_undrew hb)).2
          go_simp
          exact Any.post_val hb rfl rfl
        · refine Any.owes_plain rfl fun ρ wo hs' hb hc' => ?_
          have h2 : ρ (.tmp 2) = .func (.func 85) #[] #[] := hs'.old' 2 (by kernel_rfl)
          exact Any.ok_move (Any.post_val hb rfl h2)
        · refine Any.owes_plain rfl fun ρ wo hs' hb hc' => ?_
          have h0 : ρ (.tmp 0) = .pointer (some ⟨bt, 0, none⟩) := hs'.old' 0 (by kernel_rfl)
          exact Any.ok_move (Any.post_val hb rfl h0)
        · refine Any.owes_plain rfl fun ρ wo hs' hb hc' => ?_
          have h28 : ρ (.tmp 28) = .pointer (some ⟨bt, 0, none⟩) := hs'.new' 28 4 (by kernel_rfl)
          go_simp
          exact Any.post_val hb rfl rfl
        · refine Any.owes_plain rfl fun ρ wo hs' hb hc' => ?_
          have h29 : ρ (.tmp 29) = .pointer (some ⟨bt, 0, none⟩) := hs'.new' 29 5 (by kernel_rfl)
          go_simp
          exact Any.post_val hb rfl rfl
        · refine Any.owes_plain rfl fun ρ wo hs' hb hc' => ?_
          have h30 : ρ (.tmp 30) = .pointer (some ⟨bt, 0, none⟩) := hs'.new' 30 6 (by kernel_rfl)
          have c0 := (HTC.out wo (below_undrew hb))
          go_simp
          exact Any.post_val hb rfl rfl
        · refine Any.owes_plain rfl fun ρ wo hs' hb hc' => ?_
          have h11 : ρ (.tmp 11) = .pointer (some ⟨bx, 0, none⟩) := hs'.old' 11 (by kernel_rfl)
          go_simp
          exact Any.post_val hb rfl rfl
        · refine Any.owes_plain rfl fun ρ wo hs' hb hc' => ?_
          have h32 : ρ (.tmp 32) = .pointer (some ⟨bx, 0, none⟩) := hs'.new' 32 8 (by kernel_rfl)
          have c0 := (HKC.out wo (below_undrew hb)).1
          go_simp
          exact Any.post_val hb rfl rfl
        · refine Any.owes_plain rfl fun ρ wo hs' hb hc' => ?_
          have h31 : ρ (.tmp 31) = .map (some bm) := hs'.new' 31 7 (by kernel_rfl)
          have h33 : ρ (.tmp 33) = .string xn := hs'.new' 33 9 (by kernel_rfl)
          refine Mp.ok_lookup Tryz.underlying169 Tryz.underlying9 (zeroGd _) (h31.trans rfl) (h33.trans rfl) (HMP.out wo (below_undrew hb)) ?_
          rw [HGT.out]
          exact Any.post_val hb rfl rfl
        · refine Any.owes_plain rfl fun ρ wo hs' hb hc' => ?_
          have h27 : ρ (.tmp 27) = .func (.func 85) #[] #[] := hs'.new' 27 3 (by kernel_rfl)
          have h34 : ρ (.tmp 34) = .agg #[.string gn, .int .i64 gc, .int .i64 gw, .int .i64 gv] := hs'.new' 34 10 (by kernel_rfl)
          go_simp
          exact (HCL.out wo).mono fun e w' ⟨he, hb'⟩ => ⟨_, he, Any.post_vals hb rfl rfl hb'⟩
        · refine Any.owes_plain rfl fun ρ wo hs' hb hc' => ?_
          have h26 : ρ (.tmp 26) = .int .i64 xc := hs'.new' 26 2 (by kernel_rfl)
          have h35 : ρ (.tmp 35) = .int .i64 gw := hs'.new' 35 11 (by kernel_rfl)
          go_simp
          exact Any.post_val hb rfl (by rw [HQQ.out]; exact wrap_in (by have h := HQR.out; rw [HQQ.out] at h; omega))
        · refine Any.owes_plain rfl fun ρ wo hs' hb hc' => ?_
          have h24 : ρ (.tmp 24) = .int .i64 S := hs'.new' 24 0 (by kernel_rfl)
          have h36 : ρ (.tmp 36) = .int .i64 q := hs'.new' 36 12 (by kernel_rfl)
          go_simp
          exact Any.post_val hb rfl (by rw [HS2.out]; exact wrap_in (by have := HQR.out; have := HSR.out; omega))
        · refine Any.owes_plain rfl fun ρ wo hs' hb hc' => ?_
          have h37 : ρ (.tmp 37) = .int .i64 S2 := hs'.new' 37 13 (by kernel_rfl)
          exact Any.ok_assign (Any.post_val hb rfl h37)
      · intro vals w4 hb hk ha
        have h14 : vals 14 = .int .i64 S2 := hk 14 (by kernel_rfl)
        have HB4 := Lib.hid (HB3.out.trans (hb.mono HB3.out.size))
        clear hk ha hb
        simp only [Any.putAll]
        go_frame
        simp only [Nat.zero_add, Nat.reduceAdd]
        rw [h14]
        by_cases hm : 1099511627776 < S2
        · have tm : decide (1099511627776 < S2) = true := decide_eq_true hm
          have HQ := Lib.hid (HOV.out hm)
          clear hm
          go_wp2_with fail
          go_ret2
          exact ⟨by rw [HQ.out]; rfl, HB4.out⟩
        · have tm : decide (1099511627776 < S2) = false := decide_eq_false hm
          have HM := Lib.hid hm
          clear hm
          go_wp2_with fail
          go_roundw
          case rel => exact ⟨k + 1, by omega, by go_num, by rw [HSN.out], by have := HM.out; rw [HSN.out] at this; omega, HB4.out⟩
          case measure => (simp [intOf]) <;> omega

    · have hE : l.take k = l := List.take_of_length_le (by omega)
      rw [hE] at hsr ⊢
      have HQ : Hid (sumV t Gd.wt l = .tuple #[.int .i64 (sumL t Gd.wt l), .int .i64 0]) := Lib.hid (by rw [HV.out, if_neg (by omega)])
      clear hbel hsr hE
      go_wp2_with fail
      go_ret2
      exact ⟨by rw [HQ.out]; rfl, HBEL.out⟩
theorem weight_any (t : List Gd) (l : List Lt) (bt bm : Nat) (v : Value) (w : World) (hs : Sl w 2 v (l.map Lt.row)) (htab : Tab w bt bm t) (hn : (codes t).Nodup) (hok : ∀ g ∈ t, gdOk g = true) :
    Calls Tryz.prog 30 #[.pointer (some ⟨bt, 0, none⟩), v] w (Ret w (sumV t Gd.wt l)) := by
  have HSU := Lib.hid (sumW_any t l bt bm v w hs htab hn hok)
  obtain ⟨x, y, hxy⟩ : ∃ x y : Int, sumV t Gd.wt l = .tuple #[.int .i64 x, .int .i64 y] := sumV_pair t Gd.wt l
  rw [hxy] at HSU ⊢
  clear hs htab hn hok hxy
  go_enter Tryz.func30, Tryz.ntmps30
  go_wp2_with (first
    | ((with_reducible refine HSU.out.mono ?_); rintro e' w2 ⟨rfl, hb2⟩; have HB := Lib.hid hb2; clear hb2)
    | fail)
  go_ret2
  exact ⟨rfl, HB.out⟩
theorem sumO_any_cl (g : Gd) (w : World) : Calls Tryz.prog 141 #[g.val] w (Ret w (.int .i64 (Gd.vol g))) := by
  obtain ⟨n, c, wt, vo⟩ := g
  simp only [Gd.val]
  go_enter Tryz.func141, Tryz.ntmps141
  go_wp2
  go_ret
  exact ⟨rfl, one_below _ _⟩
set_option maxHeartbeats 8000000 in
theorem sumO_any (t : List Gd) (l : List Lt) (bt bm : Nat) (v : Value) (w : World) (hs : Sl w 2 v (l.map Lt.row)) (htab : Tab w bt bm t) (hn : (codes t).Nodup) (hok : ∀ g ∈ t, gdOk g = true) :
    Calls Tryz.prog 84 #[.pointer (some ⟨bt, 0, none⟩), v, .func (.func 141) #[] #[]] w (Ret w (sumV t Gd.vol l)) := by
  have hll : l.length ≤ 9223372036854775807 := by have := hs.len_le; simp only [List.length_map, maxLen] at this; omega
  have HKN := Lib.hid (known_any t l bt bm v w hs htab hn)
  obtain ⟨a, c, rfl⟩ : ∃ a c, v = .slice a l.length c := by simpa using hs.shape
  have HS := Lib.hid hs
  have HTB0 := Lib.hid htab.1
  have HMP0 := Lib.hid htab.2
  have HND := Lib.hid hn
  have HOK := Lib.hid hok
  clear hs htab hn hok
  by_cases h0 : lotsC t l = 0
  rotate_left
  · obtain ⟨e, he⟩ : ∃ e, e = lotsC t l := ⟨_, rfl⟩
    have HQ : Hid (sumV t Gd.vol l = .tuple #[.int .i64 0, .int .i64 e]) := Lib.hid (by rw [sumV, if_neg h0, he])
    rw [← he] at HKN h0
    have te : (e != 0) = true := by simp [h0]
    clear h0 he
    go_enter Tryz.func84, Tryz.ntmps84
    go_wp2_with (first
      | ((with_reducible refine HKN.out.mono ?_); rintro e' w2 ⟨rfl, hb2⟩; have HB := Lib.hid hb2; clear hb2)
      | fail)
    go_ret2
    exact ⟨by rw [HQ.out]; rfl, HB.out⟩
  have HV : Hid (sumV t Gd.vol l = if 1099511627776 < sumL t Gd.vol l then .tuple #[.int .i64 0, .int .i64 3] else .tuple #[.int .i64 (sumL t Gd.vol l), .int .i64 0]) := Lib.hid (by rw [sumV, if_pos h0])
  have HLO := Lib.hid (lotsC_ok h0)
  rw [h0] at HKN
  clear h0
  go_enter Tryz.func84, Tryz.ntmps84
  go_wp2_with (first
    | ((with_reducible refine HKN.out.mono ?_); rintro e' w2 ⟨rfl, hb2⟩; have HBK := Lib.hid hb2; clear hb2)
    | fail)
  go_loopw [9, 11, 20] (fun s _ i wr => ∃ k : Nat, k ≤ l.length ∧ i = .int .i64 k ∧ s = .int .i64 (sumL t Gd.vol (l.take k)) ∧ sumL t Gd.vol (l.take k) ≤ 1099511627776 ∧ Below w.heap.size w wr) (fun _ _ i _ => l.length - (intOf i).toNat)
  case atStart => exact ⟨0, Nat.zero_le _, rfl, rfl, (by simp [sumL]), HBK.out⟩
  case round =>
    obtain ⟨k, hk, rfl, rfl, hsr, hbel⟩ := hrel
    have HBEL := Lib.hid hbel
    by_cases hlt : k < l.length
    · obtain ⟨b, off, rfl, -, hb, hc⟩ := HS.out.at (i := k) (by simpa using hlt)
      have d0 := (hbel.cell (p := ⟨b, off + k * 2, none⟩) hb).trans (hc k l[k].row (by simp [hlt]) 0 _ rfl)
      have d1 := (hbel.cell (p := ⟨b, off + k * 2 + 1, none⟩) hb).trans (hc k l[k].row (by simp [hlt]) 1 _ rfl)
      have hnx := sumL_next t Gd.vol (k := k) hlt
      have hle := sumL_le (t := t) (f := Gd.vol) HLO.out (sel_vol HOK.out) (k + 1)
      have h0 := sumL_nonneg (t := t) (f := Gd.vol) HLO.out (sel_vol HOK.out) k
      obtain ⟨hlo, ⟨g, hgo⟩⟩ := HLO.out l[k] (List.getElem_mem hlt)
      have htm := tmL_range (t := t) (f := Gd.vol) hlo hgo (sel_vol HOK.out)
      have hte : tmL t Gd.vol l[k] = l[k].cnt * Gd.vol g := by rw [tmL, hgo]
      generalize l[k] = x at *
      obtain ⟨xn, xc⟩ := x
      obtain ⟨gn, gc, gw, gv⟩ := g
      simp only at d0 d1 hgo hte
      have hg := gEnts_get HND.out xn
      have HGT : Hid (Mp.mget (gEnts t) xn = some (.agg #[.string gn, .int .i64 gc, .int .i64 gw, .int .i64 gv])) := Lib.hid (by rw [hg, hgo]; rfl)
      obtain ⟨S, hS⟩ : ∃ S, S = sumL t Gd.vol (l.take k) := ⟨_, rfl⟩
      obtain ⟨S2, hS2⟩ : ∃ S, S = sumL t Gd.vol (l.take (k + 1)) := ⟨_, rfl⟩
      obtain ⟨q, hq⟩ : ∃ q, q = tmL t Gd.vol ⟨xn, xc⟩ := ⟨_, rfl⟩
      rw [← hS, ← hS2, ← hq] at hnx
      rw [← hS] at hsr h0 ⊢
      rw [← hS2] at hle
      rw [← hq] at htm
      rw [← hq] at hte
      have HCL := Lib.hid (fun W => by have := sumO_any_cl ⟨gn, gc, gw, gv⟩ W; simpa only [Gd.val] using this)
      have HQQ : Hid (q = xc * gv) := Lib.hid hte
      have HQR : Hid (1 ≤ q ∧ q ≤ 1099511627776) := Lib.hid htm
      have HSR : Hid (0 ≤ S ∧ S ≤ 1099511627776) := Lib.hid ⟨h0, hsr⟩
      have HS2 : Hid (S2 = S + q) := Lib.hid hnx
      have HSN : Hid (S2 = sumL t Gd.vol (l.take (k + 1))) := Lib.hid hS2
      have HOV : Hid (1099511627776 < S2 → sumV t Gd.vol l = .tuple #[.int .i64 0, .int .i64 3]) := Lib.hid (fun h => by rw [HV.out, if_pos (by omega)])
      have HX0 := Lib.hid (heap_alloc_new wr (.cells #[.string xn, .int .i64 xc] 107))
      have HB0 := Lib.hid (one_below wr (.cells #[.string xn, .int .i64 xc] 107))
      clear hc hbel hnx hle h0 hlo hgo htm hte hg hS hS2 hq hsr
      go_wp2_with fail
      obtain ⟨w3, hw3⟩ : ∃ x, x = wr.alloc (.cells #[.string xn, .int .i64 xc] 107) := ⟨_, rfl⟩
      obtain ⟨bx, hbx⟩ : ∃ b, b = wr.heap.size := ⟨_, rfl⟩
      rw [← hw3] at HX0 HB0 ⊢
      rw [← hbx] at HX0 ⊢
      have HB3 := Lib.hid (HBEL.out.trans (HB0.out.mono HBEL.out.size))
      have HTC : Hid (∀ W, Below w3.heap.size w3 W → W.cell? ⟨bt, 0, none⟩ = some (.map (some bm))) := Lib.hid (fun W hW => cell_blk (blk (HB3.out.trans (hW.mono HB3.out.size)) (lt_blk HTB0.out) HTB0.out) 0)
      have HMP : Hid (∀ W, Below w3.heap.size w3 W → Mp.MapAt W bm (gEnts t)) := Lib.hid (fun W hW => HMP0.out.same ((HB3.out.trans (hW.mono HB3.out.size)).block bm HMP0.out.lt))
      have HKC : Hid (∀ W, Below w3.heap.size w3 W → W.cell? ⟨bx, 0, none⟩ = some (.string xn) ∧ W.cell? ⟨bx, 1, none⟩ = some (.int .i64 xc)) := Lib.hid (fun W hW => lt_cells (blk hW (lt_blk HX0.out) HX0.out))
      clear hw3 hbx d0 d1
      refine Any.region_lit (fun
        | 0 => Any.val (.int .i64 S)
        | 1 => Any.val (.pointer (some ⟨bx, 1, none⟩))
        | 2 => Any.val (.int .i64 xc)
        | 3 => Any.val (.func (.func 141) #[] #[])
        | 4 => Any.val (.pointer (some ⟨bt, 0, none⟩))
        | 5 => Any.val (.pointer (some ⟨bt, 0, none⟩))
        | 6 => Any.val (.pointer (some ⟨bt, 0, none⟩))
        | 7 => Any.val (.map (some bm))
        | 8 => Any.val (.pointer (some ⟨bx, 0, none⟩))
        | 9 => Any.val (.string xn)
        | 10 => Any.val (.agg #[.string gn, .int .i64 gc, .int .i64 gw, .int .i64 gv])
        | 11 => Any.val (.int .i64 gv)
        | 12 => Any.val (.int .i64 q)
        | 13 => Any.val (.int .i64 S2)
        | 14 => Any.val (.int .i64 S2)
        | _ => Any.idle) (by kernel_rfl) (by kernel_rfl) (by kernel_rfl) ?_ ?_ ?_
      · intro i _
        match i with
        | 0 => exact Any.lasts_val _
        | 1 => exact Any.lasts_val _
        | 2 => exact Any.lasts_val _
        | 3 => exact Any.lasts_val _
        | 4 => exact Any.lasts_val _
        | 5 => exact Any.lasts_val _
        | 6 => exact Any.lasts_val _
        | 7 => exact Any.lasts_val _
        | 8 => exact Any.lasts_val _
        | 9 => exact Any.lasts_val _
        | 10 => exact Any.lasts_val _
        | 11 => exact Any.lasts_val _
        | 12 => exact Any.lasts_val _
        | 13 => exact Any.lasts_val _
        | 14 => exact Any.lasts_val _
        | n + 15 => exact Any.lasts_idle
      · refine ⟨?_, ?_, ?_, ?_, ?_, ?_, ?_, ?_, ?_, ?_, ?_, ?_, ?_, ?_, ?_, trivial⟩
        · refine Any.owes_plain rfl fun ρ wo hs' hb hc' => ?_
          have h9 : ρ (.tmp 9) = .int .i64 S := hs'.old' 9 (by kernel_rfl)
          exact Any.ok_move (Any.post_val hb rfl h9)
        · refine Any.owes_plain rfl fun ρ wo hs' hb hc' => ?_
          have h11 : ρ (.tmp 11) = .pointer (some ⟨bx, 0, none⟩) := hs'.old' 11 (by kernel_rfl)
          go_simp
          exact Any.post_val hb rfl rfl
        · refine Any.owes_plain rfl fun ρ wo hs' hb hc' => ?_
          have h25 : ρ (.tmp 25) = .pointer (some ⟨bx, 1, none⟩) := hs'.new' 25 1 (by kernel_rfl)
          have c0 := (HKC.out wo (below_undrew hb)).2
          go_simp
          exact Any.post_val hb rfl rfl
        · refine Any.owes_plain rfl fun ρ wo hs' hb hc' => ?_
          have h2 : ρ (.tmp 2) = .func (.func 141) #[] #[] := hs'.old' 2 (by kernel_rfl)
          exact Any.ok_move (Any.post_val hb rfl h2)
        · refine Any.owes_plain rfl fun ρ wo hs' hb hc' => ?_
          have h0 : ρ (.tmp 0) = .pointer (some ⟨bt, 0, none⟩) := hs'.old' 0 (by kernel_rfl)
          exact Any.ok_move (Any.post_val hb rfl h0)
        · refine Any.owes_plain rfl fun ρ wo hs' hb hc' => ?_
          have h28 : ρ (.tmp 28) = .pointer (some ⟨bt, 0, none⟩) := hs'.new' 28 4 (by kernel_rfl)
          go_simp
          exact Any.post_val hb rfl rfl
        · refine Any.owes_plain rfl fun ρ wo hs' hb hc' => ?_
          have h29 : ρ (.tmp 29) = .pointer (some ⟨bt, 0, none⟩) := hs'.new' 29 5 (by kernel_rfl)
          go_simp
          exact Any.post_val hb rfl rfl
        · refine Any.owes_plain rfl fun ρ wo hs' hb hc' => ?_
          have h30 : ρ (.tmp 30) = .pointer (some ⟨bt, 0, none⟩) := hs'.new' 30 6 (by kernel_rfl)
          have c0 := (HTC.out wo (below_undrew hb))
          go_simp
          exact Any.post_val hb rfl rfl
        · refine Any.owes_plain rfl fun ρ wo hs' hb hc' => ?_
          have h11 : ρ (.tmp 11) = .pointer (some ⟨bx, 0, none⟩) := hs'.old' 11 (by kernel_rfl)
          go_simp
          exact Any.post_val hb rfl rfl
        · refine Any.owes_plain rfl fun ρ wo hs' hb hc' => ?_
          have h32 : ρ (.tmp 32) = .pointer (some ⟨bx, 0, none⟩) := hs'.new' 32 8 (by kernel_rfl)
          have c0 := (HKC.out wo (below_undrew hb)).1
          go_simp
          exact Any.post_val hb rfl rfl
        · refine Any.owes_plain rfl fun ρ wo hs' hb hc' => ?_
          have h31 : ρ (.tmp 31) = .map (some bm) := hs'.new' 31 7 (by kernel_rfl)
          have h33 : ρ (.tmp 33) = .string xn := hs'.new' 33 9 (by kernel_rfl)
          refine Mp.ok_lookup Tryz.underlying169 Tryz.underlying9 (zeroGd _) (h31.trans rfl) (h33.trans rfl) (HMP.out wo (below_undrew hb)) ?_
          rw [HGT.out]
          exact Any.post_val hb rfl rfl
        · refine Any.owes_plain rfl fun ρ wo hs' hb hc' => ?_
          have h27 : ρ (.tmp 27) = .func (.func 141) #[] #[] := hs'.new' 27 3 (by kernel_rfl)
          have h34 : ρ (.tmp 34) = .agg #[.string gn, .int .i64 gc, .int .i64 gw, .int .i64 gv] := hs'.new' 34 10 (by kernel_rfl)
          go_simp
          exact (HCL.out wo).mono fun e w' ⟨he, hb'⟩ => ⟨_, he, Any.post_vals hb rfl rfl hb'⟩
        · refine Any.owes_plain rfl fun ρ wo hs' hb hc' => ?_
          have h26 : ρ (.tmp 26) = .int .i64 xc := hs'.new' 26 2 (by kernel_rfl)
          have h35 : ρ (.tmp 35) = .int .i64 gv := hs'.new' 35 11 (by kernel_rfl)
          go_simp
          exact Any.post_val hb rfl (by rw [HQQ.out]; exact wrap_in (by have h := HQR.out; rw [HQQ.out] at h; omega))
        · refine Any.owes_plain rfl fun ρ wo hs' hb hc' => ?_
          have h24 : ρ (.tmp 24) = .int .i64 S := hs'.new' 24 0 (by kernel_rfl)
          have h36 : ρ (.tmp 36) = .int .i64 q := hs'.new' 36 12 (by kernel_rfl)
          go_simp
          exact Any.post_val hb rfl (by rw [HS2.out]; exact wrap_in (by have := HQR.out; have := HSR.out; omega))
        · refine Any.owes_plain rfl fun ρ wo hs' hb hc' => ?_
          have h37 : ρ (.tmp 37) = .int .i64 S2 := hs'.new' 37 13 (by kernel_rfl)
          exact Any.ok_assign (Any.post_val hb rfl h37)
      · intro vals w4 hb hk ha
        have h14 : vals 14 = .int .i64 S2 := hk 14 (by kernel_rfl)
        have HB4 := Lib.hid (HB3.out.trans (hb.mono HB3.out.size))
        clear hk ha hb
        simp only [Any.putAll]
        go_frame
        simp only [Nat.zero_add, Nat.reduceAdd]
        rw [h14]
        by_cases hm : 1099511627776 < S2
        · have tm : decide (1099511627776 < S2) = true := decide_eq_true hm
          have HQ := Lib.hid (HOV.out hm)
          clear hm
          go_wp2_with fail
          go_ret2
          exact ⟨by rw [HQ.out]; rfl, HB4.out⟩
        · have tm : decide (1099511627776 < S2) = false := decide_eq_false hm
          have HM := Lib.hid hm
          clear hm
          go_wp2_with fail
          go_roundw
          case rel => exact ⟨k + 1, by omega, by go_num, by rw [HSN.out], by have := HM.out; rw [HSN.out] at this; omega, HB4.out⟩
          case measure => (simp [intOf]) <;> omega

    · have hE : l.take k = l := List.take_of_length_le (by omega)
      rw [hE] at hsr ⊢
      have HQ : Hid (sumV t Gd.vol l = .tuple #[.int .i64 (sumL t Gd.vol l), .int .i64 0]) := Lib.hid (by rw [HV.out, if_neg (by omega)])
      clear hbel hsr hE
      go_wp2_with fail
      go_ret2
      exact ⟨by rw [HQ.out]; rfl, HBEL.out⟩
theorem volume_any (t : List Gd) (l : List Lt) (bt bm : Nat) (v : Value) (w : World) (hs : Sl w 2 v (l.map Lt.row)) (htab : Tab w bt bm t) (hn : (codes t).Nodup) (hok : ∀ g ∈ t, gdOk g = true) :
    Calls Tryz.prog 81 #[.pointer (some ⟨bt, 0, none⟩), v] w (Ret w (sumV t Gd.vol l)) := by
  have HSU := Lib.hid (sumO_any t l bt bm v w hs htab hn hok)
  obtain ⟨x, y, hxy⟩ : ∃ x y : Int, sumV t Gd.vol l = .tuple #[.int .i64 x, .int .i64 y] := sumV_pair t Gd.vol l
  rw [hxy] at HSU ⊢
  clear hs htab hn hok hxy
  go_enter Tryz.func81, Tryz.ntmps81
  go_wp2_with (first
    | ((with_reducible refine HSU.out.mono ?_); rintro e' w2 ⟨rfl, hb2⟩; have HB := Lib.hid hb2; clear hb2)
    | fail)
  go_ret2
  exact ⟨rfl, HB.out⟩

end Go.Proofs.YtbigoifpfkdkjaaGreatDoor.Sc
namespace Go.Proofs.YtbigoifpfkdkjaaGreatDoor.Sc
open Go Go.RowKit Go.ChangeShapes Go.WideShapes Go.ChangeAt
set_option maxRecDepth 100000

theorem gFind_no {t : List Gd} {n : ByteArray} : decide (gFind n 0 t < 0) = (gOf t n).isNone := by
  rcases gFind_of n t 0 with ⟨h1, h2⟩ | ⟨j, hj, h1, h2⟩
  · rw [h1, h2]; rfl
  · rw [h1, h2, Nat.zero_add]
    exact decide_eq_false (by omega)
end Go.Proofs.YtbigoifpfkdkjaaGreatDoor.Sc
namespace Go.Proofs.YtbigoifpfkdkjaaGreatDoor.Sc
open Go Go.RowKit Go.ChangeShapes Go.WideShapes Go.ChangeAt
set_option maxRecDepth 100000

def apPairs : List (Int × Int) := [(1, 2), (1, 3), (1, 4), (1, 5), (1, 6), (1, 7), (1, 8), (1, 9), (2, 3), (2, 5), (3, 5), (3, 8), (4, 5), (4, 8), (5, 6), (5, 8), (7, 9)]
def apHas (a b : Int) (l : List (Int × Int)) : Bool := l.any fun p => decide (p.1 = a) && decide (p.2 = b)
def apartM (a b : Int) : Bool := if b < a then apHas b a apPairs else apHas a b apPairs
/-- The program's table as it was laid. -/
structure ApT (w : World) : Prop where
  lt : 0 < w.heap.size
  c0 : w.cell? ⟨0, 0, none⟩ = some (.int .i64 0)
  c1 : w.cell? ⟨0, 1, none⟩ = some (.int .i64 1020)
  c2 : w.cell? ⟨0, 2, none⟩ = some (.int .i64 40)
  c3 : w.cell? ⟨0, 3, none⟩ = some (.int .i64 288)
  c4 : w.cell? ⟨0, 4, none⟩ = some (.int .i64 288)
  c5 : w.cell? ⟨0, 5, none⟩ = some (.int .i64 320)
  c6 : w.cell? ⟨0, 6, none⟩ = some (.int .i64 0)
  c7 : w.cell? ⟨0, 7, none⟩ = some (.int .i64 512)
  c8 : w.cell? ⟨0, 8, none⟩ = some (.int .i64 0)
  c9 : w.cell? ⟨0, 9, none⟩ = some (.int .i64 0)
theorem ApT.below {w w' : World} (h : ApT w) (hb : Below w.heap.size w w') : ApT w' := by
  have e : ∀ j, w'.cell? ⟨0, j, none⟩ = w.cell? ⟨0, j, none⟩ := fun j => hb.cell (p := ⟨0, j, none⟩) h.lt
  exact ⟨Nat.lt_of_lt_of_le h.lt hb.size, (e 0).trans h.c0, (e 1).trans h.c1, (e 2).trans h.c2, (e 3).trans h.c3, (e 4).trans h.c4, (e 5).trans h.c5, (e 6).trans h.c6, (e 7).trans h.c7, (e 8).trans h.c8, (e 9).trans h.c9⟩
theorem apHas_in {a b : Int} {l : List (Int × Int)} (h : apHas a b l = true) : (a, b) ∈ l := by
  obtain ⟨p, hp, hh⟩ := List.any_eq_true.1 h
  simp only [Bool.and_eq_true, decide_eq_true_eq] at hh
  obtain ⟨rfl, rfl⟩ := hh
  exact hp
theorem apPairs_range : ∀ p ∈ apPairs, 1 ≤ p.1 ∧ p.1 < p.2 ∧ p.2 ≤ 9 := by decide
theorem apart_range {a b : Int} (h : apartM a b = true) : (1 ≤ a ∧ a ≤ 9) ∧ (1 ≤ b ∧ b ≤ 9) ∧ ¬ a = b := by
  unfold apartM at h
  split at h
  · have := apPairs_range _ (apHas_in h); simp only at this; omega
  · have := apPairs_range _ (apHas_in h); simp only at this; omega
theorem apart_out {a b : Int} (h : ¬ (0 ≤ a ∧ a < 10 ∧ 0 ≤ b ∧ b < 10)) : apartM a b = false := by
  cases hh : apartM a b with
  | false => rfl
  | true => have := apart_range hh; omega
theorem apart_comm (a b : Int) : apartM a b = apartM b a := by
  unfold apartM
  by_cases h1 : b < a
  · rw [if_pos h1, if_neg (by omega)]
  · by_cases h2 : a < b
    · rw [if_neg h1, if_pos h2]
    · obtain rfl : a = b := by omega
      rfl
theorem ten {a : Int} (h0 : 0 ≤ a) (h1 : a < 10) : a = 0 ∨ a = 1 ∨ a = 2 ∨ a = 3 ∨ a = 4 ∨ a = 5 ∨ a = 6 ∨ a = 7 ∨ a = 8 ∨ a = 9 := by omega
set_option maxHeartbeats 0 in
theorem apart_any (a b : Int) (w : World) (h : ApT w) : Calls Tryz.prog 89 #[.int .i64 a, .int .i64 b] w (RetB w (apartM a b)) := by
  by_cases h0 : a < 0
  · have t0 : decide (a < 0) = true := decide_eq_true h0
    have HQ : Hid (apartM a b = false) := Lib.hid (apart_out (by omega))
    clear h0 h
    go_enter Tryz.func89, Tryz.ntmps89
    go_wp2
    go_ret
    exact retB HQ.out.symm (Below.refl _ _)
  have t0 : decide (a < 0) = false := decide_eq_false h0
  by_cases h1 : 10 ≤ a
  · have t1 : decide (10 ≤ a) = true := decide_eq_true h1
    have HQ : Hid (apartM a b = false) := Lib.hid (apart_out (by omega))
    clear h0 h1 h
    go_enter Tryz.func89, Tryz.ntmps89
    go_wp2
    go_ret
    exact retB HQ.out.symm (Below.refl _ _)
  have t1 : decide (10 ≤ a) = false := decide_eq_false h1
  by_cases h2 : b < 0
  · have t2 : decide (b < 0) = true := decide_eq_true h2
    have HQ : Hid (apartM a b = false) := Lib.hid (apart_out (by omega))
    clear h0 h1 h2 h
    go_enter Tryz.func89, Tryz.ntmps89
    go_wp2
    go_ret
    exact retB HQ.out.symm (Below.refl _ _)
  have t2 : decide (b < 0) = false := decide_eq_false h2
  by_cases h3 : 10 ≤ b
  · have t3 : decide (10 ≤ b) = true := decide_eq_true h3
    have HQ : Hid (apartM a b = false) := Lib.hid (apart_out (by omega))
    clear h0 h1 h2 h3 h
    go_enter Tryz.func89, Tryz.ntmps89
    go_wp2
    go_ret
    exact retB HQ.out.symm (Below.refl _ _)
  clear t0 t1 t2
  have ha := ten (a := a) (by omega) (by omega)
  have hb := ten (a := b) (by omega) (by omega)
  clear h0 h1 h2 h3
  obtain ⟨hlt, c0, c1, c2, c3, c4, c5, c6, c7, c8, c9⟩ := h
  rcases ha with rfl | rfl | rfl | rfl | rfl | rfl | rfl | rfl | rfl | rfl <;> rcases hb with rfl | rfl | rfl | rfl | rfl | rfl | rfl | rfl | rfl | rfl
  all_goals
    go_enter Tryz.func89, Tryz.ntmps89
    go_wp2
    go_ret
    exact retB (by decide) (Below.refl _ _)
theorem alloc_fold : ∀ (objs : List Obj) (w : World) (j : Nat) (o : Obj), objs[j]? = some o → (objs.foldl World.alloc w).heap[w.heap.size + j]? = some o
  | [], _, _, _, h => by simp at h
  | x :: r, w, 0, o, h => by
    obtain rfl : x = o := by simpa using h
    have hb : ∀ (l : List Obj) (w : World), Below w.heap.size w (l.foldl World.alloc w) := by
      intro l
      induction l with
      | nil => exact fun w => Below.refl _ _
      | cons y l ih => exact fun w => (one_below w y).trans ((ih (w.alloc y)).mono (by simp))
    exact blk (hb r (w.alloc x)) (by simp) (heap_alloc_new w x)
  | x :: r, w, j + 1, o, h => by
    have := alloc_fold r (w.alloc x) j o (by simpa using h)
    rw [List.foldl_cons]
    rw [← this]
    congr 1
    simp; omega
theorem fold_below (l : List Obj) : ∀ w : World, Below w.heap.size w (l.foldl World.alloc w) := by
  induction l with
  | nil => exact fun w => Below.refl _ _
  | cons y l ih => exact fun w => (one_below w y).trans ((ih (w.alloc y)).mono (by simp))
end Go.Proofs.YtbigoifpfkdkjaaGreatDoor.Sc
