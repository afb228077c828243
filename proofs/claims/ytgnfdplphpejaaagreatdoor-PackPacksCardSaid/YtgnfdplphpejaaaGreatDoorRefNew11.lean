/- New by the document; Get. -/
import Derived.Test.YtgnfdplphpejaaaGreatDoorNew11
namespace Go.Proofs.YtgnfdplphpejaaaGreatDoor.Sc
open Go Go.RowKit Go.ChangeShapes Go.WideShapes Go.ChangeAt
set_option maxRecDepth 100000

set_option maxHeartbeats 8000000 in
theorem refNewG_any (l : List Gd) (v : Value) (w : World) (hs : Sl w 4 v (l.map Gd.row)) (hl : l.length ≤ 4000) (hf : ∀ g ∈ l, g.fit) :
    Calls Tryz.prog 11 #[v] w (Ret w (.int .i64 (tabC l))) := by
  obtain ⟨a, c, rfl⟩ : ∃ a c, v = .slice a l.length c := by simpa using hs.shape
  have hll : (l.length : Int) ≤ 4000 := by omega
  have HL := Lib.hid hl
  have HF := Lib.hid hf
  have HS := Lib.hid hs
  obtain ⟨f, hff⟩ : ∃ f : Gd → Bool, f = fun g => !gdOk g := ⟨_, rfl⟩
  have HTC0 : Hid (tabC l = if l.any f = true then 1 else if dupG [] l = true then 5 else 0) := Lib.hid (by rw [hff, tabC]; split; rfl; split; rfl; rw [if_neg (by omega)])
  have HFF : Hid (∀ g, f g = !gdOk g) := Lib.hid (fun g => by rw [hff])
  have tl : decide ((4096 : Int) < l.length) = false := decide_eq_false (by omega)
  clear hs hl hf hff
  go_enter Tryz.func11, Tryz.ntmps11
  go_wp2_with fail
  go_loopw [3] (fun i wr => ∃ k : Nat, k ≤ l.length ∧ i = .int .i64 k ∧ l.any f = (l.drop k).any f ∧ Below w.heap.size w wr) (fun i _ => l.length - (intOf i).toNat)
  case atStart => exact ⟨0, Nat.zero_le _, rfl, rfl, Below.refl _ _⟩
  case round =>
    obtain ⟨k, hk, rfl, hrel, hbel⟩ := hrel
    have HBEL := Lib.hid hbel
    by_cases hlt : k < l.length
    · obtain ⟨b, off, rfl, -, hb, hc⟩ := HS.out.at (i := k) (by simpa using hlt)
      have d0 := (hbel.cell (p := ⟨b, off + k * 4, none⟩) hb).trans (hc k l[k].row (by simp [hlt]) 0 _ rfl)
      have d1 := (hbel.cell (p := ⟨b, off + k * 4 + 1, none⟩) hb).trans (hc k l[k].row (by simp [hlt]) 1 _ rfl)
      have d2 := (hbel.cell (p := ⟨b, off + k * 4 + 2, none⟩) hb).trans (hc k l[k].row (by simp [hlt]) 2 _ rfl)
      have d3 := (hbel.cell (p := ⟨b, off + k * 4 + 3, none⟩) hb).trans (hc k l[k].row (by simp [hlt]) 3 _ rfl)
      rw [any_nextG hlt, HFF.out] at hrel
      have HFK := Lib.hid (HF.out l[k] (List.getElem_mem hlt))
      generalize l[k] = x at *
      obtain ⟨xn, xc, xw, xv⟩ := x
      simp only at d0 d1 d2 d3
      have MAY := Lib.hid (fun W => refMayG_any ⟨xn, xc, xw, xv⟩ W HFK.out)
      simp only [Gd.val] at MAY
      clear hc hbel
      cases ho : gdOk ⟨xn, xc, xw, xv⟩
      · rw [ho] at MAY hrel
        have HQ : Hid (tabC l = 1) := Lib.hid (by rw [HTC0.out, if_pos (by rw [hrel]; rfl)])
        clear ho hrel tl
        go_wp2_with (first
          | ((with_reducible refine (MAY.out _).mono ?_); rintro e w2 ⟨rfl, hb2⟩; have HB2 := Lib.hid (HBEL.out.trans (hb2.mono HBEL.out.size)); clear hb2)
          | fail)
        go_ret
        exact ⟨by rw [HQ.out]; rfl, HB2.out⟩
      · rw [ho] at MAY hrel
        have HR := Lib.hid hrel
        clear ho hrel tl
        go_wp2_with (first
          | ((with_reducible refine (MAY.out _).mono ?_); rintro e w2 ⟨rfl, hb2⟩; have HB2 := Lib.hid (HBEL.out.trans (hb2.mono HBEL.out.size)); clear hb2)
          | fail)
        go_roundw
        case rel => exact ⟨k + 1, by omega, by go_num, by rw [HR.out]; rfl, HB2.out⟩
        case measure => (simp [intOf]) <;> omega
    · have HTC1 : Hid (tabC l = if dupG (codes (l.take 0)) (l.drop 0) = true then 5 else 0) := Lib.hid (by
        rw [HTC0.out, if_neg]
        · rfl
        · rw [hrel, List.drop_of_length_le (by omega)]; exact Bool.false_ne_true)
      clear hrel hbel
      go_wp2_with fail
      clear tl
      go_loopw [4] (fun i wr => ∃ k : Nat, k ≤ l.length ∧ i = .int .i64 k ∧ dupG [] l = dupG (codes (l.take k)) (l.drop k) ∧ Below w.heap.size w wr) (fun i _ => l.length - (intOf i).toNat)
      case atStart => exact ⟨0, Nat.zero_le _, rfl, rfl, HBEL.out⟩
      case round =>
        obtain ⟨k, hk, rfl, hrel, hbel⟩ := hrel
        have HBEL := Lib.hid hbel
        by_cases hlt : k < l.length
        · obtain ⟨b, off, rfl, -, hb, hc⟩ := HS.out.at (i := k) (by simpa using hlt)
          have hsw := HS.out.below hbel (Nat.le_refl _)
          obtain ⟨hkc, hst⟩ := Sl.take (m := k) hsw (by simpa using hk)
          rw [← List.map_take] at hst
          have HST := Lib.hid hst
          have HD0 := Lib.hid ((hbel.cell (p := ⟨b, off + k * 4, none⟩) hb).trans (hc k l[k].row (by simp [hlt]) 0 _ rfl))
          have hkl : ((k : Nat) : Int) < (l.length : Int) := by omega
          have tk0 : decide ((k : Int) < 0) = false := decide_eq_false (by omega)
          have hkc' : ((k : Nat) : Int) ≤ (c : Int) := by omega
          rw [dupG_next hlt, ← gFind_mem] at hrel
          generalize l[k] = x at *
          obtain ⟨xn, xc, xw, xv⟩ := x
          simp only at hrel HD0
          have HFI := Lib.hid (fun W (h : Sl W 4 (.slice (some ⟨b, off, none⟩) k c) ((l.take k).map Gd.row)) => gFind_any (l.take k) xn _ W h)
          obtain ⟨m, hm⟩ : ∃ m, m = gFind xn 0 (l.take k) := ⟨_, rfl⟩
          rw [← hm] at HFI hrel
          have HRR := Lib.hid hrel
          have HBQ := Lib.hid hb
          have HL1 := Lib.hid (show b < wr.heap.size from Nat.lt_of_lt_of_le hb hbel.size)
          clear hc hbel hrel hm hst hsw hb
          go_wp2_with fail
          refine Any.region_lit (fun
            | 0 => Any.val (.slice (some ⟨b, off, none⟩) l.length c)
            | 1 => Any.val (.int .i64 (k : Int))
            | 2 => Any.val (.slice (some ⟨b, off, none⟩) k c)
            | 3 => Any.val (.slice (some ⟨b, off, none⟩) l.length c)
            | 4 => Any.val (.int .i64 (k : Int))
            | 5 => Any.val (.pointer (some ⟨b, off + k * 4, none⟩))
            | 6 => Any.val (.pointer (some ⟨b, off + k * 4, none⟩))
            | 7 => Any.val (.string xn)
            | 8 => Any.val (.int .i64 m)
            | 9 => Any.val (.bool (decide (0 ≤ m)))
            | _ => Any.idle) (by kernel_rfl) (by kernel_rfl) (by kernel_rfl) ?_ ?_ ?_
          · intro i _
            match i with
            | 0 => exact Any.lasts_val _
            | 1 => exact Any.lasts_val _
            | 2 => exact Any.lasts_val _
            | 3 => exact Any.lasts_val _
            | 4 => exact Any.lasts_val _
            | 5 => exact Any.lasts_val _
            | 6 => exact Any.lasts_val _
            | 7 => exact Any.lasts_val _
            | 8 => exact Any.lasts_val _
            | 9 => exact Any.lasts_val _
            | n + 10 => exact Any.lasts_idle
          · refine ⟨?_, ?_, ?_, ?_, ?_, ?_, ?_, ?_, ?_, ?_, trivial⟩
            · refine Any.owes_plain rfl fun ρ wo hs' hb hc' => ?_
              have h0 : ρ (.tmp 0) = .slice (some ⟨b, off, none⟩) l.length c := hs'.old' 0 (by kernel_rfl)
              exact Any.ok_move (Any.post_val hb rfl h0)
            · refine Any.owes_plain rfl fun ρ wo hs' hb hc' => ?_
              have h4 : ρ (.tmp 4) = .int .i64 (k : Int) := hs'.old' 4 (by kernel_rfl)
              exact Any.ok_move (Any.post_val hb rfl h4)
            · refine Any.owes_plain rfl fun ρ wo hs' hb hc' => ?_
              have h23 : ρ (.tmp 23) = .slice (some ⟨b, off, none⟩) l.length c := hs'.new' 23 0 (by kernel_rfl)
              have h24 : ρ (.tmp 24) = .int .i64 (k : Int) := hs'.new' 24 1 (by kernel_rfl)
              go_simp
              exact Any.post_val hb rfl rfl
            · refine Any.owes_plain rfl fun ρ wo hs' hb hc' => ?_
              have h0 : ρ (.tmp 0) = .slice (some ⟨b, off, none⟩) l.length c := hs'.old' 0 (by kernel_rfl)
              exact Any.ok_move (Any.post_val hb rfl h0)
            · refine Any.owes_plain rfl fun ρ wo hs' hb hc' => ?_
              have h4 : ρ (.tmp 4) = .int .i64 (k : Int) := hs'.old' 4 (by kernel_rfl)
              exact Any.ok_move (Any.post_val hb rfl h4)
            · refine Any.owes_plain rfl fun ρ wo hs' hb hc' => ?_
              have h26 : ρ (.tmp 26) = .slice (some ⟨b, off, none⟩) l.length c := hs'.new' 26 3 (by kernel_rfl)
              have h27 : ρ (.tmp 27) = .int .i64 (k : Int) := hs'.new' 27 4 (by kernel_rfl)
              go_simp
              exact Any.post_val hb rfl rfl
            · refine Any.owes_plain rfl fun ρ wo hs' hb hc' => ?_
              have h28 : ρ (.tmp 28) = .pointer (some ⟨b, off + k * 4, none⟩) := hs'.new' 28 5 (by kernel_rfl)
              go_simp
              exact Any.post_val hb rfl rfl
            · refine Any.owes_plain rfl fun ρ wo hs' hb hc' => ?_
              have h29 : ρ (.tmp 29) = .pointer (some ⟨b, off + k * 4, none⟩) := hs'.new' 29 6 (by kernel_rfl)
              have c0 : wo.cell? ⟨b, off + k * 4, none⟩ = some (.string xn) := ((below_undrew hb).cell (p := ⟨b, off + k * 4, none⟩) HL1.out).trans HD0.out
              go_simp
              exact Any.post_val hb rfl rfl
            · refine Any.owes_plain rfl fun ρ wo hs' hb hc' => ?_
              have h25 : ρ (.tmp 25) = .slice (some ⟨b, off, none⟩) k c := hs'.new' 25 2 (by kernel_rfl)
              have h30 : ρ (.tmp 30) = .string xn := hs'.new' 30 7 (by kernel_rfl)
              have hf := hs'.func 27
              go_simp
              exact (HFI.out wo (HST.out.below (below_undrew hb) (Nat.le_refl _))).mono fun e w' ⟨he, hb'⟩ => ⟨_, he, Any.post_vals hb rfl rfl hb'⟩
            · refine Any.owes_plain rfl fun ρ wo hs' hb hc' => ?_
              have h31 : ρ (.tmp 31) = .int .i64 m := hs'.new' 31 8 (by kernel_rfl)
              go_simp
              exact Any.post_val hb rfl rfl
          · intro vals w4 hb hk ha
            have h9 := hk 9 (by kernel_rfl)
            have HB4 := Lib.hid (HBEL.out.trans (hb.mono HBEL.out.size))
            clear hk ha hb
            simp only [Any.putAll]
            go_frame
            simp only [Nat.zero_add, Nat.reduceAdd]
            rw [h9]
            by_cases hm : 0 ≤ m
            · have tm : decide (0 ≤ m) = true := decide_eq_true hm
              have HQ : Hid (tabC l = 5) := Lib.hid (by
                have h1 := HTC1.out
                have h2 := HRR.out
                rw [tm, Bool.true_or] at h2
                rw [h1, if_pos]
                exact h2)
              rw [tm]
              clear hm tm
              go_wp2_with fail
              go_ret
              exact ⟨by rw [HQ.out]; rfl, HB4.out⟩
            · have tm : decide (0 ≤ m) = false := decide_eq_false hm
              have HQ : Hid (dupG [] l = dupG (codes (l.take (k + 1))) (l.drop (k + 1))) := Lib.hid (by
                have h2 := HRR.out
                rwa [tm, Bool.false_or] at h2)
              rw [tm]
              clear hm tm
              go_wp2_with fail
              go_roundw
              case rel => exact ⟨k + 1, by omega, by go_num, HQ.out, HB4.out⟩
              case measure => (simp [intOf]) <;> omega
        · have HE : Hid (tabC l = 0) := Lib.hid (by
            have h1 := HTC1.out
            rw [h1, if_neg]
            show ¬ dupG [] l = true
            rw [hrel, List.drop_of_length_le (by omega)]
            exact Bool.false_ne_true)
          have tl : decide ((4096 : Int) < l.length) = false := decide_eq_false (by omega)
          clear hbel hrel
          go_wp2_with fail
          go_ret
          exact ⟨by rw [HE.out]; rfl, HBEL.out⟩
/-- What Get tells. -/
def getV (l : List Gd) (n : ByteArray) : Value := match gOf l n with
  | some g => .tuple #[g.val, .bool true]
  | none => .tuple #[.agg #[.string ⟨#[]⟩, .int .i64 0, .int .i64 0, .int .i64 0], .bool false]
set_option maxHeartbeats 2000000 in
theorem get_any (l : List Gd) (bt bm : Nat) (n : ByteArray) (w : World) (h : Tab w bt bm l) (hn : (codes l).Nodup) :
    Calls Tryz.prog 61 #[.pointer (some ⟨bt, 0, none⟩), .string n] w (Ret w (getV l n)) := by
  have hg := gEnts_get hn n
  have HMP : Hid (∀ W, Below w.heap.size w W → Mp.MapAt W bm (gEnts l)) := Lib.hid (fun W hW => h.2.same (hW.block _ h.2.lt))
  have HTC := Lib.hid (fun W (hW : Below w.heap.size w W) => cell_blk (blk hW (lt_blk h.1) h.1) 0)
  have c0 := HTC.out _ (one_below w (.cells #[.string ⟨#[]⟩, .int .i64 0, .int .i64 0, .int .i64 0] 51))
  cases hgo : gOf l n with
  | none =>
    have HG : Hid (Mp.mget (gEnts l) n = none) := Lib.hid (by rw [hg, hgo]; rfl)
    have HQ : Hid (getV l n = .tuple #[.agg #[.string ⟨#[]⟩, .int .i64 0, .int .i64 0, .int .i64 0], .bool false]) := Lib.hid (by rw [getV, hgo])
    clear h hn hg hgo
    go_enter Tryz.func61, Tryz.ntmps61
    go_wp2_with (first
      | ((with_reducible refine Mp.wpl_miss (l := gEnts l) (key := n) ?_ ?_ ?_ Tryz.underlying86 Tryz.underlying9 (zeroGd _) (HMP.out _ (one_below _ _)) HG.out ?_); rfl; rfl; rfl)
      | fail)
    have HZ : Hid (((w.alloc (.cells #[.string ⟨#[]⟩, .int .i64 0, .int .i64 0, .int .i64 0] 51)).alloc (.cells #[.string ⟨#[]⟩, .int .i64 0, .int .i64 0, .int .i64 0] 51)).heap[w.heap.size]? = some (.cells #[.string ⟨#[]⟩, .int .i64 0, .int .i64 0, .int .i64 0] 51 (0, 0))) := Lib.hid (blk (one_below _ _) (by simp) (heap_alloc_new _ _))
    obtain ⟨z0, z1, z2, z3⟩ := gd_cells HZ.out
    exact bodyPost_ret (v := .tuple #[.agg #[.string ⟨#[]⟩, .int .i64 0, .int .i64 0, .int .i64 0], .bool false]) (by simp [results, Tryz.results61, go_sem, z0, z1, z2, z3]) rfl ⟨by rw [HQ.out], (one_below _ _).alloc (by simp) _⟩
  | some g =>
    obtain ⟨gn, gc, gw, gv⟩ := g
    have HG : Hid (Mp.mget (gEnts l) n = some (.agg #[.string gn, .int .i64 gc, .int .i64 gw, .int .i64 gv])) := Lib.hid (by rw [hg, hgo]; rfl)
    have HQ : Hid (getV l n = .tuple #[.agg #[.string gn, .int .i64 gc, .int .i64 gw, .int .i64 gv], .bool true]) := Lib.hid (by rw [getV, hgo]; rfl)
    clear h hn hg hgo
    go_enter Tryz.func61, Tryz.ntmps61
    go_wp2_with (first
      | ((with_reducible refine Mp.wpl_got (l := gEnts l) (key := n) ?_ ?_ ?_ Tryz.underlying86 Tryz.underlying9 (zeroGd _) (HMP.out _ (one_below _ _)) HG.out ?_); rfl; rfl; rfl)
      | fail)
    have HZ : Hid (((w.alloc (.cells #[.string gn, .int .i64 gc, .int .i64 gw, .int .i64 gv] 51)).alloc (.cells #[.string gn, .int .i64 gc, .int .i64 gw, .int .i64 gv] 51)).heap[w.heap.size]? = some (.cells #[.string gn, .int .i64 gc, .int .i64 gw, .int .i64 gv] 51 (0, 0))) := Lib.hid (blk (one_below _ _) (by simp) (heap_alloc_new _ _))
    obtain ⟨z0, z1, z2, z3⟩ := gd_cells HZ.out
    exact bodyPost_ret (v := .tuple #[.agg #[.string gn, .int .i64 gc, .int .i64 gw, .int .i64 gv], .bool true]) (by simp [results, Tryz.results61, go_sem, z0, z1, z2, z3]) rfl ⟨by rw [HQ.out], (one_below _ _).alloc (by simp) _⟩
end Go.Proofs.YtgnfdplphpejaaaGreatDoor.Sc
