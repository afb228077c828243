/- How many pieces of each good there are: the program's map. -/
import Derived.Test.YtbigoifpfkdkjaaGreatDoorTe16
import Derived.Test.YtbigoifpfkdkjaaGreatDoorTe17
namespace Go.Proofs.YtbigoifpfkdkjaaGreatDoor.Sc
open Go Go.RowKit Go.ChangeShapes Go.WideShapes Go.ChangeAt
set_option maxRecDepth 100000

def Lt.val (x : Lt) : Value := .agg #[.string x.good, .int .i64 x.cnt]
structure Lt.fit (x : Lt) : Prop where
  good : x.good.size ≤ maxLen
def lotOk (x : Lt) : Bool := nameOk x.good && cntOk x.cnt
theorem lt_cells {w : World} {b : Nat} {x0 x1 : Value} {T : TypeId} (h : w.heap[b]? = some (.cells #[x0, x1] T (0, 0))) : w.cell? ⟨b, 0, none⟩ = some x0 ∧ w.cell? ⟨b, 1, none⟩ = some x1 := ⟨cell_blk h 0, cell_blk h 1⟩
set_option maxHeartbeats 4000000 in
theorem mayLot_any (x : Lt) (w : World) : Calls Tryz.prog 150 #[x.val] w (RetB w (lotOk x)) := by
  obtain ⟨n, c⟩ := x
  have HN := fun W => markName_any n W
  have HC := fun W => cnt_any c W
  have HX0 := Lib.hid (heap_alloc_new w (.cells #[.string n, .int .i64 c] 107))
  obtain ⟨R, hR⟩ : ∃ R, R = lotOk ⟨n, c⟩ := ⟨_, rfl⟩
  rw [← hR]
  simp only [lotOk] at hR
  simp only [Lt.val]
  obtain ⟨b0, t0⟩ : ∃ b, nameOk n = b := ⟨_, rfl⟩
  rw [t0] at hR HN
  clear t0
  obtain ⟨b1, t1⟩ : ∃ b, cntOk c = b := ⟨_, rfl⟩
  rw [t1] at hR HC
  clear t1
  have HR := Lib.hid hR
  clear hR
  cases b0
  · skip
    go_enter Tryz.func150, Tryz.ntmps150
    go_wp2_with (first
      | ((with_reducible refine (HN _).mono ?_); rintro e w1 ⟨rfl, hb1⟩; have HX := Lib.hid (blk hb1 (lt_blk HX0.out) HX0.out); have HB := Lib.hid (below_then (one_below _ _) hb1); obtain ⟨x0, x1⟩ := lt_cells HX.out; clear hb1)
      | ((with_reducible refine (HC _).mono ?_); rintro e w2 ⟨rfl, hb2⟩; have HX := Lib.hid (blk hb2 (lt_blk HX.out) HX.out); have HB := Lib.hid (HB.out.trans (hb2.mono HB.out.size)); obtain ⟨x0, x1⟩ := lt_cells HX.out; clear hb2)
      | fail)
    go_ret
    exact retB (by rw [HR.out]; rfl) HB.out
  · skip
    cases b1
    · skip
      go_enter Tryz.func150, Tryz.ntmps150
      go_wp2_with (first
        | ((with_reducible refine (HN _).mono ?_); rintro e w1 ⟨rfl, hb1⟩; have HX := Lib.hid (blk hb1 (lt_blk HX0.out) HX0.out); have HB := Lib.hid (below_then (one_below _ _) hb1); obtain ⟨x0, x1⟩ := lt_cells HX.out; clear hb1)
        | ((with_reducible refine (HC _).mono ?_); rintro e w2 ⟨rfl, hb2⟩; have HX := Lib.hid (blk hb2 (lt_blk HX.out) HX.out); have HB := Lib.hid (HB.out.trans (hb2.mono HB.out.size)); obtain ⟨x0, x1⟩ := lt_cells HX.out; clear hb2)
        | fail)
      go_ret
      exact retB (by rw [HR.out]; rfl) HB.out
    · skip
      go_enter Tryz.func150, Tryz.ntmps150
      go_wp2_with (first
        | ((with_reducible refine (HN _).mono ?_); rintro e w1 ⟨rfl, hb1⟩; have HX := Lib.hid (blk hb1 (lt_blk HX0.out) HX0.out); have HB := Lib.hid (below_then (one_below _ _) hb1); obtain ⟨x0, x1⟩ := lt_cells HX.out; clear hb1)
        | ((with_reducible refine (HC _).mono ?_); rintro e w2 ⟨rfl, hb2⟩; have HX := Lib.hid (blk hb2 (lt_blk HX.out) HX.out); have HB := Lib.hid (HB.out.trans (hb2.mono HB.out.size)); obtain ⟨x0, x1⟩ := lt_cells HX.out; clear hb2)
        | fail)
      go_ret
      exact retB (by rw [HR.out]; rfl) HB.out
/-- Is a good in no table? -/
def noG (t : List Gd) (x : Lt) : Bool := (gOf t x.good).isNone
/-- What is wrong first with lots. -/
def lotsC (t : List Gd) (l : List Lt) : Int := if l.any (fun x => !lotOk x) = true then 1 else if l.any (noG t) = true then 4 else 0
theorem any_nextL {l : List Lt} {k : Nat} (h : k < l.length) (f : Lt → Bool) : (l.drop k).any f = (f l[k] || (l.drop (k + 1)).any f) := by rw [List.drop_eq_getElem_cons h, List.any_cons]
theorem lotsC_ok {t : List Gd} {l : List Lt} (h : lotsC t l = 0) : ∀ x ∈ l, lotOk x = true ∧ ∃ g, gOf t x.good = some g := by
  unfold lotsC at h
  split at h
  · cases h
  · rename_i h1
    split at h
    · cases h
    · rename_i h2
      intro x hx
      have h3 := List.any_eq_false.1 (Bool.eq_false_iff.2 h1) x hx
      have h4 := List.any_eq_false.1 (Bool.eq_false_iff.2 h2) x hx
      refine ⟨by simpa using h3, ?_⟩
      simp only [noG, Option.isNone_iff_eq_none] at h4
      exact Option.ne_none_iff_exists'.1 h4
set_option maxHeartbeats 8000000 in
theorem known_any (t : List Gd) (l : List Lt) (bt bm : Nat) (v : Value) (w : World) (hs : Sl w 2 v (l.map Lt.row)) (htab : Tab w bt bm t) (hn : (codes t).Nodup) :
    Calls Tryz.prog 87 #[.pointer (some ⟨bt, 0, none⟩), v] w (Ret w (.int .i64 (lotsC t l))) := by
  have hll : l.length ≤ 9223372036854775807 := by have := hs.len_le; simp only [List.length_map, maxLen] at this; omega
  obtain ⟨a, c, rfl⟩ : ∃ a c, v = .slice a l.length c := by simpa using hs.shape
  have HS := Lib.hid hs
  have HTB0 := Lib.hid htab.1
  have HMP0 := Lib.hid htab.2
  have HND := Lib.hid hn
  obtain ⟨f, hff⟩ : ∃ f : Lt → Bool, f = fun x => !lotOk x := ⟨_, rfl⟩
  obtain ⟨g, hgg⟩ : ∃ g : Lt → Bool, g = noG t := ⟨_, rfl⟩
  have HTC0 : Hid (lotsC t l = if l.any f = true then 1 else if l.any g = true then 4 else 0) := Lib.hid (by rw [hff, hgg, lotsC])
  have HFF : Hid (∀ x, f x = !lotOk x) := Lib.hid (fun x => by rw [hff])
  have HGF : Hid (∀ x, g x = (gOf t x.good).isNone) := Lib.hid (fun x => by rw [hgg]; rfl)
  clear hs htab hn hff hgg
  go_enter Tryz.func87, Tryz.ntmps87
  go_wp2_with fail
  go_loopw [6, 13] (fun _ i wr => ∃ k : Nat, k ≤ l.length ∧ i = .int .i64 k ∧ l.any f = (l.drop k).any f ∧ Below w.heap.size w wr) (fun _ i _ => l.length - (intOf i).toNat)
  case atStart => exact ⟨0, Nat.zero_le _, rfl, rfl, Below.refl _ _⟩
  case round =>
    obtain ⟨k, hk, rfl, hrel, hbel⟩ := hrel
    have HBEL := Lib.hid hbel
    by_cases hlt : k < l.length
    · obtain ⟨b, off, rfl, -, hb, hc⟩ := HS.out.at (i := k) (by simpa using hlt)
      have d0 := (hbel.cell (p := ⟨b, off + k * 2, none⟩) hb).trans (hc k l[k].row (by simp [hlt]) 0 _ rfl)
      have d1 := (hbel.cell (p := ⟨b, off + k * 2 + 1, none⟩) hb).trans (hc k l[k].row (by simp [hlt]) 1 _ rfl)
      rw [any_nextL hlt, HFF.out] at hrel
      generalize l[k] = x at *
      obtain ⟨xn, xc⟩ := x
      simp only at d0 d1
      have MAY := Lib.hid (fun W => mayLot_any ⟨xn, xc⟩ W)
      simp only [Lt.val] at MAY
      clear hc hbel
      cases ho : lotOk ⟨xn, xc⟩
      · rw [ho] at MAY hrel
        have HQ : Hid (lotsC t l = 1) := Lib.hid (by rw [HTC0.out, if_pos (by rw [hrel]; rfl)])
        clear ho hrel
        go_wp2_with (first
          | ((with_reducible refine (MAY.out _).mono ?_); rintro e w2 ⟨rfl, hb2⟩; have HB2 := Lib.hid (below_then (one_below _ _) hb2); clear hb2)
          | fail)
        go_ret
        exact ⟨by rw [HQ.out]; rfl, HBEL.out.trans (HB2.out.mono HBEL.out.size)⟩
      · rw [ho] at MAY hrel
        have HR := Lib.hid hrel
        clear ho hrel
        go_wp2_with (first
          | ((with_reducible refine (MAY.out _).mono ?_); rintro e w2 ⟨rfl, hb2⟩; have HB2 := Lib.hid (below_then (one_below _ _) hb2); clear hb2)
          | fail)
        go_roundw
        case rel => exact ⟨k + 1, by omega, by go_num, by rw [HR.out]; rfl, HBEL.out.trans (HB2.out.mono HBEL.out.size)⟩
        case measure => (simp [intOf]) <;> omega
    · have HTC1 : Hid (lotsC t l = if l.any g = true then 4 else 0) := Lib.hid (by
        rw [HTC0.out, if_neg]
        rw [hrel, List.drop_of_length_le (by omega)]; exact Bool.false_ne_true)
      clear hrel hbel
      go_wp2_with fail
      go_loopw [8, 9, 10, 23] (fun _ _ _ i wr => ∃ k : Nat, k ≤ l.length ∧ i = .int .i64 k ∧ l.any g = (l.drop k).any g ∧ Below w.heap.size w wr) (fun _ _ _ i _ => l.length - (intOf i).toNat)
      case atStart => exact ⟨0, Nat.zero_le _, rfl, rfl, HBEL.out⟩
      case round =>
        obtain ⟨k, hk, rfl, hrel, hbel⟩ := hrel
        have HBEL := Lib.hid hbel
        by_cases hlt : k < l.length
        · obtain ⟨b, off, rfl, -, hb, hc⟩ := HS.out.at (i := k) (by simpa using hlt)
          have d0 := (hbel.cell (p := ⟨b, off + k * 2, none⟩) hb).trans (hc k l[k].row (by simp [hlt]) 0 _ rfl)
          have d1 := (hbel.cell (p := ⟨b, off + k * 2 + 1, none⟩) hb).trans (hc k l[k].row (by simp [hlt]) 1 _ rfl)
          rw [any_nextL hlt, HGF.out] at hrel
          generalize l[k] = x at *
          obtain ⟨xn, xc⟩ := x
          simp only at d0 d1 hrel
          have hg := gEnts_get HND.out xn
          clear hc hbel
          have HX0 := Lib.hid (heap_alloc_new wr (.cells #[.string xn, .int .i64 xc] 107))
          have HB0 := Lib.hid (one_below wr (.cells #[.string xn, .int .i64 xc] 107))
          have HRR := Lib.hid hrel
          clear hrel
          go_wp2_with fail
          obtain ⟨w3, hw3⟩ : ∃ x, x = wr.alloc (.cells #[.string xn, .int .i64 xc] 107) := ⟨_, rfl⟩
          obtain ⟨bx, hbx⟩ : ∃ b, b = wr.heap.size := ⟨_, rfl⟩
          rw [← hw3] at HX0 HB0 ⊢
          rw [← hbx] at HX0 ⊢
          have HB3 := Lib.hid (HBEL.out.trans (HB0.out.mono HBEL.out.size))
          have HTC : Hid (∀ W, Below w3.heap.size w3 W → W.cell? ⟨bt, 0, none⟩ = some (.map (some bm))) := Lib.hid (fun W hW => cell_blk (blk (HB3.out.trans (hW.mono HB3.out.size)) (lt_blk HTB0.out) HTB0.out) 0)
          have HMP : Hid (∀ W, Below w3.heap.size w3 W → Mp.MapAt W bm (gEnts t)) := Lib.hid (fun W hW => HMP0.out.same ((HB3.out.trans (hW.mono HB3.out.size)).block bm HMP0.out.lt))
          have HKC : Hid (∀ W, Below w3.heap.size w3 W → W.cell? ⟨bx, 0, none⟩ = some (.string xn)) := Lib.hid (fun W hW => (lt_cells (blk hW (lt_blk HX0.out) HX0.out)).1)
          clear hw3 hbx d0 d1
          cases hgo : gOf t xn with
          | none =>
            have HGT : Hid (Mp.mget (gEnts t) xn = none) := Lib.hid (by rw [hg, hgo]; rfl)
            have HQ4 : Hid (lotsC t l = 4) := Lib.hid (by rw [HTC1.out, if_pos]; rw [HRR.out, hgo]; rfl)
            clear hgo hg
            refine Any.region_lit (fun
              | 0 => Any.val (.pointer (some ⟨bt, 0, none⟩))
              | 1 => Any.val (.pointer (some ⟨bt, 0, none⟩))
              | 2 => Any.val (.pointer (some ⟨bt, 0, none⟩))
              | 3 => Any.val (.map (some bm))
              | 4 => Any.val (.pointer (some ⟨bx, 0, none⟩))
              | 5 => Any.val (.string xn)
              | 6 => Any.val (.tuple #[.agg #[.string ⟨#[]⟩, .int .i64 0, .int .i64 0, .int .i64 0], .bool false])
              | 7 => Any.val (.tuple #[.agg #[.string ⟨#[]⟩, .int .i64 0, .int .i64 0, .int .i64 0], .bool false])
              | 8 => Any.val (.agg #[.string ⟨#[]⟩, .int .i64 0, .int .i64 0, .int .i64 0])
              | 9 => Any.val (.bool false)
              | 10 => Any.boxS w3.heap.size 84 #[.string ⟨#[]⟩, .int .i64 0, .int .i64 0, .int .i64 0]
              | 11 => ⟨fun _ _ => True, fun _ => none, [10]⟩
              | 12 => Any.val (.bool false)
              | _ => Any.idle) (by kernel_rfl) (by kernel_rfl) (by kernel_rfl) ?_ ?_ ?_
            · intro i _
              match i with
              | 0 => exact Any.lasts_val _
              | 1 => exact Any.lasts_val _
              | 2 => exact Any.lasts_val _
              | 3 => exact Any.lasts_val _
              | 4 => exact Any.lasts_val _
              | 5 => exact Any.lasts_val _
              | 6 => exact Any.lasts_val _
              | 7 => exact Any.lasts_val _
              | 8 => exact Any.lasts_val _
              | 9 => exact Any.lasts_val _
              | 10 => exact Any.lasts_box _ _ _
              | 11 => exact Any.lasts_lost _
              | 12 => exact Any.lasts_val _
              | n + 13 => exact Any.lasts_idle
            · refine ⟨?_, ?_, ?_, ?_, ?_, ?_, ?_, ?_, ?_, ?_, ?_, ?_, ?_, trivial⟩
              · refine Any.owes_plain rfl fun ρ wo hs' hb hc' => ?_
                have h0 : ρ (.tmp 0) = .pointer (some ⟨bt, 0, none⟩) := hs'.old' 0 (by kernel_rfl)
                exact Any.ok_move (Any.post_val hb rfl h0)
              · refine Any.owes_plain rfl fun ρ wo hs' hb hc' => ?_
                have h28 : ρ (.tmp 28) = .pointer (some ⟨bt, 0, none⟩) := hs'.new' 28 0 (by kernel_rfl)
                go_simp
                exact Any.post_val hb rfl rfl
              · refine Any.owes_plain rfl fun ρ wo hs' hb hc' => ?_
                have h29 : ρ (.tmp 29) = .pointer (some ⟨bt, 0, none⟩) := hs'.new' 29 1 (by kernel_rfl)
                go_simp
                exact Any.post_val hb rfl rfl
              · refine Any.owes_plain rfl fun ρ wo hs' hb hc' => ?_
                have h30 : ρ (.tmp 30) = .pointer (some ⟨bt, 0, none⟩) := hs'.new' 30 2 (by kernel_rfl)
                have c0 := (HTC.out wo (below_undrew hb))
                go_simp
                exact Any.post_val hb rfl rfl
              · refine Any.owes_plain rfl fun ρ wo hs' hb hc' => ?_
                have h8 : ρ (.tmp 8) = .pointer (some ⟨bx, 0, none⟩) := hs'.old' 8 (by kernel_rfl)
                go_simp
                exact Any.post_val hb rfl rfl
              · refine Any.owes_plain rfl fun ρ wo hs' hb hc' => ?_
                have h32 : ρ (.tmp 32) = .pointer (some ⟨bx, 0, none⟩) := hs'.new' 32 4 (by kernel_rfl)
                have c0 := (HKC.out wo (below_undrew hb))
                go_simp
                exact Any.post_val hb rfl rfl
              · refine Any.owes_plain rfl fun ρ wo hs' hb hc' => ?_
                have h31 : ρ (.tmp 31) = .map (some bm) := hs'.new' 31 3 (by kernel_rfl)
                have h33 : ρ (.tmp 33) = .string xn := hs'.new' 33 5 (by kernel_rfl)
                refine Mp.ok_lookup Tryz.underlying169 Tryz.underlying9 (zeroGd _) (h31.trans rfl) (h33.trans rfl) (HMP.out wo (below_undrew hb)) ?_
                rw [HGT.out]
                exact Any.post_val hb rfl rfl
              · refine Any.owes_plain rfl fun ρ wo hs' hb hc' => ?_
                have h34 : ρ (.tmp 34) = .tuple #[.agg #[.string ⟨#[]⟩, .int .i64 0, .int .i64 0, .int .i64 0], .bool false] := hs'.new' 34 6 (by kernel_rfl)
                exact Any.ok_move (Any.post_val hb rfl h34)
              · refine Any.owes_plain rfl fun ρ wo hs' hb hc' => ?_
                have h27 : ρ (.tmp 27) = .tuple #[.agg #[.string ⟨#[]⟩, .int .i64 0, .int .i64 0, .int .i64 0], .bool false] := hs'.new' 27 7 (by kernel_rfl)
                go_simp
                exact Any.post_val hb rfl rfl
              · refine Any.owes_plain rfl fun ρ wo hs' hb hc' => ?_
                have h27 : ρ (.tmp 27) = .tuple #[.agg #[.string ⟨#[]⟩, .int .i64 0, .int .i64 0, .int .i64 0], .bool false] := hs'.new' 27 7 (by kernel_rfl)
                go_simp
                exact Any.post_val hb rfl rfl
              · refine Any.owes_plain rfl fun ρ wo hs' hb hc' => ?_
                go_simp
                exact Any.post_new hb ⟨_, rfl, hb.size, heap_alloc_new _ _⟩ (one_below _ _) (by intro b hb'; obtain rfl : wo.heap.size = b := Option.some.inj hb'; exact Nat.le_refl _)
              · refine Any.owes_plain rfl fun ρ wo hs' hb hc' => ?_
                have h35 : ρ (.tmp 35) = .agg #[.string ⟨#[]⟩, .int .i64 0, .int .i64 0, .int .i64 0] := hs'.new' 35 8 (by kernel_rfl)
                obtain ⟨g, hg, hgB, hgb⟩ := hs'.new' 9 10 (by kernel_rfl)
                have c0 := cell_blk hgb 0
                have c1 := cell_blk hgb 1
                have c2 := cell_blk hgb 2
                have c3 := cell_blk hgb 3
                have f0 := free_blk hgb 0
                have f1 := free_blk hgb 1
                have f2 := free_blk hgb 2
                have f3 := free_blk hgb 3
                simp only [List.getElem?_toArray, List.getElem?_cons_zero, List.getElem?_cons_succ] at c0 c1 c2 c3
                go_simp
                exact Any.post_lost hb rfl rfl rfl hg hgB (grown_then (grown_then (grown_then (grown_set _ _ _ _) (grown_set _ _ _ _)) (grown_set _ _ _ _)) (grown_set _ _ _ _))
              · refine Any.owes_plain rfl fun ρ wo hs' hb hc' => ?_
                have h36 : ρ (.tmp 36) = .bool false := hs'.new' 36 9 (by kernel_rfl)
                exact Any.ok_assign (Any.post_val hb rfl h36)
            · intro vals w4 hb hk ha
              have h12 := hk 12 (by kernel_rfl)
              have HB4 := Lib.hid (HB3.out.trans (hb.mono HB3.out.size))
              clear hk ha hb
              simp only [Any.putAll]
              go_frame
              simp only [Nat.zero_add, Nat.reduceAdd]
              rw [h12]
              go_wp2_with fail
              go_ret
              exact ⟨by rw [HQ4.out]; rfl, HB4.out⟩
          | some q =>
            obtain ⟨gn, gc, gw, gv⟩ := q
            have HGT : Hid (Mp.mget (gEnts t) xn = some (.agg #[.string gn, .int .i64 gc, .int .i64 gw, .int .i64 gv])) := Lib.hid (by rw [hg, hgo]; rfl)
            have HNX : Hid (l.any g = (l.drop (k + 1)).any g) := Lib.hid (by rw [HRR.out, hgo]; rfl)
            clear hgo hg
            refine Any.region_lit (fun
              | 0 => Any.val (.pointer (some ⟨bt, 0, none⟩))
              | 1 => Any.val (.pointer (some ⟨bt, 0, none⟩))
              | 2 => Any.val (.pointer (some ⟨bt, 0, none⟩))
              | 3 => Any.val (.map (some bm))
              | 4 => Any.val (.pointer (some ⟨bx, 0, none⟩))
              | 5 => Any.val (.string xn)
              | 6 => Any.val (.tuple #[.agg #[.string gn, .int .i64 gc, .int .i64 gw, .int .i64 gv], .bool true])
              | 7 => Any.val (.tuple #[.agg #[.string gn, .int .i64 gc, .int .i64 gw, .int .i64 gv], .bool true])
              | 8 => Any.val (.agg #[.string gn, .int .i64 gc, .int .i64 gw, .int .i64 gv])
              | 9 => Any.val (.bool true)
              | 10 => Any.boxS w3.heap.size 84 #[.string ⟨#[]⟩, .int .i64 0, .int .i64 0, .int .i64 0]
              | 11 => ⟨fun _ _ => True, fun _ => none, [10]⟩
              | 12 => Any.val (.bool true)
              | _ => Any.idle) (by kernel_rfl) (by kernel_rfl) (by kernel_rfl) ?_ ?_ ?_
            · intro i _
              match i with
              | 0 => exact Any.lasts_val _
              | 1 => exact Any.lasts_val _
              | 2 => exact Any.lasts_val _
              | 3 => exact Any.lasts_val _
              | 4 => exact Any.lasts_val _
              | 5 => exact Any.lasts_val _
              | 6 => exact Any.lasts_val _
              | 7 => exact Any.lasts_val _
              | 8 => exact Any.lasts_val _
              | 9 => exact Any.lasts_val _
              | 10 => exact Any.lasts_box _ _ _
              | 11 => exact Any.lasts_lost _
              | 12 => exact Any.lasts_val _
              | n + 13 => exact Any.lasts_idle
            · refine ⟨?_, ?_, ?_, ?_, ?_, ?_, ?_, ?_, ?_, ?_, ?_, ?_, ?_, trivial⟩
              · refine Any.owes_plain rfl fun ρ wo hs' hb hc' => ?_
                have h0 : ρ (.tmp 0) = .pointer (some ⟨bt, 0, none⟩) := hs'.old' 0 (by kernel_rfl)
                exact Any.ok_move (Any.post_val hb rfl h0)
              · refine Any.owes_plain rfl fun ρ wo hs' hb hc' => ?_
                have h28 : ρ (.tmp 28) = .pointer (some ⟨bt, 0, none⟩) := hs'.new' 28 0 (by kernel_rfl)
                go_simp
                exact Any.post_val hb rfl rfl
              · refine Any.owes_plain rfl fun ρ wo hs' hb hc' => ?_
                have h29 : ρ (.tmp 29) = .pointer (some ⟨bt, 0, none⟩) := hs'.new' 29 1 (by kernel_rfl)
                go_simp
                exact Any.post_val hb rfl rfl
              · refine Any.owes_plain rfl fun ρ wo hs' hb hc' => ?_
                have h30 : ρ (.tmp 30) = .pointer (some ⟨bt, 0, none⟩) := hs'.new' 30 2 (by kernel_rfl)
                have c0 := (HTC.out wo (below_undrew hb))
                go_simp
                exact Any.post_val hb rfl rfl
              · refine Any.owes_plain rfl fun ρ wo hs' hb hc' => ?_
                have h8 : ρ (.tmp 8) = .pointer (some ⟨bx, 0, none⟩) := hs'.old' 8 (by kernel_rfl)
                go_simp
                exact Any.post_val hb rfl rfl
              · refine Any.owes_plain rfl fun ρ wo hs' hb hc' => ?_
                have h32 : ρ (.tmp 32) = .pointer (some ⟨bx, 0, none⟩) := hs'.new' 32 4 (by kernel_rfl)
                have c0 := (HKC.out wo (below_undrew hb))
                go_simp
                exact Any.post_val hb rfl rfl
              · refine Any.owes_plain rfl fun ρ wo hs' hb hc' => ?_
                have h31 : ρ (.tmp 31) = .map (some bm) := hs'.new' 31 3 (by kernel_rfl)
                have h33 : ρ (.tmp 33) = .string xn := hs'.new' 33 5 (by kernel_rfl)
                refine Mp.ok_lookup Tryz.underlying169 Tryz.underlying9 (zeroGd _) (h31.trans rfl) (h33.trans rfl) (HMP.out wo (below_undrew hb)) ?_
                rw [HGT.out]
                exact Any.post_val hb rfl rfl
              · refine Any.owes_plain rfl fun ρ wo hs' hb hc' => ?_
                have h34 : ρ (.tmp 34) = .tuple #[.agg #[.string gn, .int .i64 gc, .int .i64 gw, .int .i64 gv], .bool true] := hs'.new' 34 6 (by kernel_rfl)
                exact Any.ok_move (Any.post_val hb rfl h34)
              · refine Any.owes_plain rfl fun ρ wo hs' hb hc' => ?_
                have h27 : ρ (.tmp 27) = .tuple #[.agg #[.string gn, .int .i64 gc, .int .i64 gw, .int .i64 gv], .bool true] := hs'.new' 27 7 (by kernel_rfl)
                go_simp
                exact Any.post_val hb rfl rfl
              · refine Any.owes_plain rfl fun ρ wo hs' hb hc' => ?_
                have h27 : ρ (.tmp 27) = .tuple #[.agg #[.string gn, .int .i64 gc, .int .i64 gw, .int .i64 gv], .bool true] := hs'.new' 27 7 (by kernel_rfl)
                go_simp
                exact Any.post_val hb rfl rfl
              · refine Any.owes_plain rfl fun ρ wo hs' hb hc' => ?_
                go_simp
                exact Any.post_new hb ⟨_, rfl, hb.size, heap_alloc_new _ _⟩ (one_below _ _) (by intro b hb'; obtain rfl : wo.heap.size = b := Option.some.inj hb'; exact Nat.le_refl _)
              · refine Any.owes_plain rfl fun ρ wo hs' hb hc' => ?_
                have h35 : ρ (.tmp 35) = .agg #[.string gn, .int .i64 gc, .int .i64 gw, .int .i64 gv] := hs'.new' 35 8 (by kernel_rfl)
                obtain ⟨g, hg, hgB, hgb⟩ := hs'.new' 9 10 (by kernel_rfl)
                have c0 := cell_blk hgb 0
                have c1 := cell_blk hgb 1
                have c2 := cell_blk hgb 2
                have c3 := cell_blk hgb 3
                have f0 := free_blk hgb 0
                have f1 := free_blk hgb 1
                have f2 := free_blk hgb 2
                have f3 := free_blk hgb 3
                simp only [List.getElem?_toArray, List.getElem?_cons_zero, List.getElem?_cons_succ] at c0 c1 c2 c3
                go_simp
                exact Any.post_lost hb rfl rfl rfl hg hgB (grown_then (grown_then (grown_then (grown_set _ _ _ _) (grown_set _ _ _ _)) (grown_set _ _ _ _)) (grown_set _ _ _ _))
              · refine Any.owes_plain rfl fun ρ wo hs' hb hc' => ?_
                have h36 : ρ (.tmp 36) = .bool true := hs'.new' 36 9 (by kernel_rfl)
                exact Any.ok_assign (Any.post_val hb rfl h36)
            · intro vals w4 hb hk ha
              have h12 := hk 12 (by kernel_rfl)
              have HB4 := Lib.hid (HB3.out.trans (hb.mono HB3.out.size))
              clear hk ha hb
              simp only [Any.putAll]
              go_frame
              simp only [Nat.zero_add, Nat.reduceAdd]
              rw [h12]
              go_wp2_with fail
              go_roundw
              case rel => exact ⟨k + 1, by omega, by go_num, HNX.out, HB4.out⟩
              case measure => (simp [intOf]) <;> omega
        · have HE : Hid (lotsC t l = 0) := Lib.hid (by
            rw [HTC1.out, if_neg]
            rw [hrel, List.drop_of_length_le (by omega)]
            exact Bool.false_ne_true)
          clear hbel hrel
          go_wp2_with fail
          go_ret
          exact ⟨by rw [HE.out]; rfl, HBEL.out⟩
end Go.Proofs.YtbigoifpfkdkjaaGreatDoor.Sc
namespace Go.Proofs.YtbigoifpfkdkjaaGreatDoor.Sc
open Go Go.RowKit Go.ChangeShapes Go.WideShapes Go.ChangeAt
set_option maxRecDepth 100000

/-- The entries tell how many there are. -/
def CntOf (es : Mp.Ents) (l : List Lt) : Prop := ∀ n, Mp.mget es n = if 0 < posTot l n then some (.int .i64 (posTot l n)) else none
theorem cntOf_nil : CntOf [] [] := fun n => by simp [Mp.mget, posTot]
theorem posTot_snoc (l : List Lt) (x : Lt) (n : ByteArray) : posTot (l ++ [x]) n = posTot l n + if x.good = n ∧ 0 < x.cnt then x.cnt else 0 := by
  rw [posTot_append]; simp [posTot]
theorem cntOf_skip {es : Mp.Ents} {l : List Lt} {x : Lt} (h : CntOf es l) (hx : ¬ 0 < x.cnt) : CntOf es (l ++ [x]) := fun n => by
  have e : posTot (l ++ [x]) n = posTot l n := by rw [posTot_snoc, if_neg (fun h => hx h.2), Int.add_zero]
  rw [e]
  exact h n
theorem cntOf_put {es : Mp.Ents} {l : List Lt} {x : Lt} (h : CntOf es l) (hx : 0 < x.cnt) : CntOf (Mp.mput es x.good (.int .i64 (posTot l x.good + x.cnt))) (l ++ [x]) := fun n => by
  have h0 := posTot_nonneg l n
  by_cases hn : x.good = n
  · subst hn
    have e : posTot (l ++ [x]) x.good = posTot l x.good + x.cnt := by rw [posTot_snoc, if_pos ⟨rfl, hx⟩]
    rw [Mp.mget_mput_same, e, if_pos (by omega)]
  · have e : posTot (l ++ [x]) n = posTot l n := by rw [posTot_snoc, if_neg (fun h => hn h.1), Int.add_zero]
    rw [Mp.mget_mput_other _ _ (fun e => hn e.symm), e]
    exact h n
theorem cntOf_old {es : Mp.Ents} {l : List Lt} (h : CntOf es l) (n : ByteArray) : (Mp.mget es n).getD (.int .i64 0) = .int .i64 (posTot l n) := by
  rw [h n]
  split
  · rfl
  · have := posTot_nonneg l n
    have : posTot l n = 0 := by omega
    rw [this]; rfl
theorem posTot_le {l : List Lt} (h : ∀ x ∈ l, x.cnt ≤ 1099511627776) (n : ByteArray) : posTot l n ≤ 1099511627776 * l.length := by
  induction l with
  | nil => simp [posTot]
  | cons x r ih =>
    have h1 := ih (fun y hy => h y (List.mem_cons_of_mem _ hy))
    have h2 := h x List.mem_cons_self
    simp only [posTot, List.length_cons]
    split <;> omega
/-- A new map of numbers. -/
def MapP (w : World) (l : List Lt) (e : Ending) (w' : World) : Prop := ∃ bm es, e = .returned (.map (some bm)) ∧ w.heap.size ≤ bm ∧ Mp.MapAt w' bm es ∧ CntOf es l ∧ es.length ≤ l.length ∧ Below w.heap.size w w'
theorem wrap_q {x : Int} (h : -9223372036854775808 ≤ x ∧ x ≤ 9223372036854775807) : wrap64 x = x := by unfold wrap64; omega
theorem zeroInt (w : World) : (zeroValue 3).run Tryz.prog w = .ok (.int .i64 0) w := by kernel_rfl
set_option maxHeartbeats 4000000 in
theorem counts_any (l : List Lt) (v : Value) (w : World) (hs : Sl w 2 v (l.map Lt.row)) (hl : l.length ≤ 4000) (hc : ∀ x ∈ l, x.cnt ≤ 1099511627776) :
    Calls Tryz.prog 91 #[v] w (MapP w l) := by
  obtain ⟨a, c, rfl⟩ : ∃ a c, v = .slice a l.length c := by simpa using hs.shape
  have hll : l.length ≤ 9223372036854775807 := by omega
  have HS := Lib.hid hs
  have HL := Lib.hid hl
  have HC := Lib.hid hc
  have tm : ∀ W : World, (Instr.makeMap 183 none).run Tryz.prog W = .ok (.map (some W.heap.size)) (W.alloc (.map #[] 0)) := fun W => by kernel_rfl
  have HM0 := Lib.hid (Mp.MapAt.made w)
  clear hs hl hc
  go_enter Tryz.func91, Tryz.ntmps91
  go_wp2_with fail
  obtain ⟨bm, hbm⟩ : ∃ b, b = w.heap.size := ⟨_, rfl⟩
  rw [← hbm] at HM0 ⊢
  have HBM : Hid (w.heap.size ≤ bm) := Lib.hid (by omega)
  clear hbm tm
  go_loopw [5, 9] (fun _ i wr => ∃ (k : Nat) (es : Mp.Ents), k ≤ l.length ∧ i = .int .i64 k ∧ Mp.MapAt wr bm es ∧ CntOf es (l.take k) ∧ es.length ≤ k ∧ Below w.heap.size w wr) (fun _ i _ => l.length - (intOf i).toNat)
  case atStart => exact ⟨0, [], Nat.zero_le _, rfl, HM0.out, cntOf_nil, Nat.le_refl _, one_below _ _⟩
  case round =>
    obtain ⟨k, es, hk, rfl, hm, hcn, hel, hbel⟩ := hrel
    have HBEL := Lib.hid hbel
    have HM := Lib.hid hm
    have HCN := Lib.hid hcn
    have HEL := Lib.hid hel
    by_cases hlt : k < l.length
    · obtain ⟨b, off, rfl, -, hb, hc⟩ := HS.out.at (i := k) (by simpa using hlt)
      have d0 := (hbel.cell (p := ⟨b, off + k * 2, none⟩) hb).trans (hc k l[k].row (by simp [hlt]) 0 _ rfl)
      have d1 := (hbel.cell (p := ⟨b, off + k * 2 + 1, none⟩) hb).trans (hc k l[k].row (by simp [hlt]) 1 _ rfl)
      have HTK : Hid (l.take (k + 1) = l.take k ++ [l[k]]) := Lib.hid (List.take_succ_eq_append_getElem hlt)
      have hx := HC.out l[k] (List.getElem_mem hlt)
      have hle := posTot_le (l := l.take k) (fun x hx => HC.out x (List.mem_of_mem_take hx)) l[k].good
      have h0 := posTot_nonneg (l.take k) l[k].good
      have hlk : ((l.take k).length : Int) ≤ 4000 := by have := HL.out; simp; omega
      generalize l[k] = x at *
      obtain ⟨xn, xc⟩ := x
      simp only at d0 d1 hx hle h0
      obtain ⟨O, hO⟩ : ∃ O, O = posTot (l.take k) xn := ⟨_, rfl⟩
      rw [← hO] at hle h0
      have HOO := Lib.hid hO
      have HGV : Hid ((Mp.mget es xn).getD (.int .i64 0) = .int .i64 O) := Lib.hid (by rw [hO]; exact cntOf_old hcn xn)
      have HB0 := Lib.hid (one_below wr (.cells #[.string xn, .int .i64 xc] 107))
      clear hc hbel hm hcn hO
      by_cases hp : 0 < xc
      · have tp : decide (0 < xc) = true := decide_eq_true hp
        have HNX : Hid (CntOf (Mp.mput es xn (.int .i64 (O + xc))) (l.take (k + 1))) := Lib.hid (by rw [HTK.out, HOO.out]; exact cntOf_put (x := ⟨xn, xc⟩) HCN.out hp)
        have eO : wrap64 (O + xc) = O + xc := wrap_q (by omega)
        clear hp
        go_wp2_with (first
          | ((with_reducible refine Mp.wpl_val (l := es) (key := xn) (v := .int .i64 O) ?_ ?_ ?_ Tryz.underlying183 Tryz.underlying9 (zeroInt _) (HM.out.same (Below.heap_alloc _ _ _ HM.out.lt)) HGV.out ?_); rfl; rfl; rfl)
          | ((with_reducible refine Mp.wpl_update (b := bm) (l := es) (key := xn) (v := .int .i64 (O + xc)) ?_ ?_ ?_ ?_ Tryz.underlying183 Tryz.underlying9 (HM.out.same (Below.heap_alloc _ _ _ HM.out.lt)) ?_); rfl; rfl; rfl; exact congrArg (Value.int .i64) eO; intro w5 hm5 hg5 hz5; have HM5 := Lib.hid hm5; have HG5 := Lib.hid hg5; clear hm5 hg5 hz5; go_frame)
          | fail)
        go_roundw
        case rel => exact ⟨k + 1, _, by omega, by go_num, HM5.out, HNX.out, by have := Mp.mput_length_le es xn (.int .i64 (O + xc)); have := HEL.out; omega, (HBEL.out.trans (HB0.out.mono HBEL.out.size)).grown HG5.out (Nat.le_trans HBEL.out.size HB0.out.size) (fun j hj => by obtain rfl : bm = j := Option.some.inj hj; exact HBM.out)⟩
        case measure => (simp [intOf]) <;> omega
      · have tp : decide (0 < xc) = false := decide_eq_false hp
        have HNX : Hid (CntOf es (l.take (k + 1))) := Lib.hid (by rw [HTK.out]; exact cntOf_skip HCN.out hp)
        clear hp
        go_wp2_with fail
        go_roundw
        case rel => exact ⟨k + 1, es, by omega, by go_num, HM.out.same (Below.heap_alloc _ _ _ HM.out.lt), HNX.out, by have := HEL.out; omega, HBEL.out.trans (HB0.out.mono HBEL.out.size)⟩
        case measure => (simp [intOf]) <;> omega
    · have HE : Hid (l.take k = l) := Lib.hid (List.take_of_length_le (by omega))
      have HKL : Hid (es.length ≤ l.length) := Lib.hid (by omega)
      clear hbel hm hcn hel
      go_wp2_with fail
      go_ret
      exact ⟨bm, es, rfl, HBM.out, HM.out, by have := HCN.out; rwa [HE.out] at this, HKL.out, HBEL.out⟩
end Go.Proofs.YtbigoifpfkdkjaaGreatDoor.Sc
