/- The classes of lots: by the program. -/
import Derived.Test.YtgnfdplphpejaaaDoorWeigh11
namespace Go.Proofs.YtgnfdplphpejaaaDoor.Sc
open Go Go.RowKit Go.ChangeShapes Go.WideShapes Go.ChangeAt
set_option maxRecDepth 100000

/-- Is there a lot of that class? -/
def isC (t : List Gd) (c : Nat) (x : Lt) : Bool := match gOf t x.good with
  | some g => decide (g.cls = (c : Int))
  | none => false
def hasC (t : List Gd) (l : List Lt) (c : Nat) : Bool := l.any (isC t c)
def clsN (t : List Gd) (l : List Lt) (n : Nat) : List Int := ((List.range n).filter (hasC t l)).map fun c : Nat => (c : Int)
theorem clsN_succ (t : List Gd) (l : List Lt) (n : Nat) : clsN t l (n + 1) = clsN t l n ++ if hasC t l n then [(n : Int)] else [] := by
  unfold clsN
  rw [List.range_succ, List.filter_append, List.map_append]
  cases h : hasC t l n <;> simp [h]
theorem hasC_next {t : List Gd} {l : List Lt} {k : Nat} (h : k < l.length) (c : Nat) : hasC t (l.take (k + 1)) c = (hasC t (l.take k) c || isC t c l[k]) := by
  rw [hasC, List.take_succ_eq_append_getElem h, List.any_append]
  simp [hasC]
/-- Ten marks in memory. -/
def CB (w : World) (b : Nat) (f : Nat → Bool) : Prop := ∃ cs : Array Value, w.heap[b]? = some (.cells cs 103 (0, 0)) ∧ ∀ c, c < 10 → cs[c]? = some (.bool (f c))
theorem CB.same {w : World} {b : Nat} {f g : Nat → Bool} (h : CB w b f) (e : ∀ c, c < 10 → g c = f c) : CB w b g := by
  obtain ⟨cs, h1, h2⟩ := h
  exact ⟨cs, h1, fun c hc => by rw [e c hc]; exact h2 c hc⟩
theorem CB.below {w w' : World} {b n : Nat} {f : Nat → Bool} (h : CB w b f) (hb : Below n w w') (hn : b < n) : CB w' b f := by
  obtain ⟨cs, h1, h2⟩ := h
  exact ⟨cs, blk hb hn h1, h2⟩
theorem CB.cell {w : World} {b : Nat} {f : Nat → Bool} (h : CB w b f) {c : Nat} (hc : c < 10) : w.cell? ⟨b, c, none⟩ = some (.bool (f c)) := by
  obtain ⟨cs, h1, h2⟩ := h
  rw [cell_blk h1 c]
  exact h2 c hc
theorem CB.free {w : World} {b : Nat} {f : Nat → Bool} (h : CB w b f) (c : Nat) : w.frozen? ⟨b, c, none⟩ = false := by
  obtain ⟨cs, h1, h2⟩ := h
  exact free_blk h1 c
theorem CB.lt {w : World} {b : Nat} {f : Nat → Bool} (h : CB w b f) : b < w.heap.size := by
  obtain ⟨cs, h1, h2⟩ := h
  exact lt_blk h1
theorem CB.set {w : World} {b : Nat} {f : Nat → Bool} (h : CB w b f) {c : Nat} (hc : c < 10) : CB (w.setCell ⟨b, c, none⟩ (.bool true)) b (fun d => f d || decide (d = c)) := by
  obtain ⟨cs, h1, h2⟩ := h
  refine ⟨cs.set! c (.bool true), ?_, fun d hd => ?_⟩
  · simp [World.setCell, Array.getElem?_modify, h1]
  · by_cases e : c = d
    · subst e
      have := (Array.getElem?_eq_some_iff.1 (h2 c hc)).1
      simp [Array.set!, this]
    · have := h2 d hd
      have e' : ¬ d = c := fun h => e h.symm
      simp [Array.set!, e, e', this]
def inCells (l : List Int) : List Value := l.map (Value.int .i64)
theorem int_one (n : Int) : ∀ u ∈ (#[Value.int .i64 n] : Array Value).toList, u.oneCell' = true := by
  intro u hu
  simp at hu
  subst hu
  rfl
theorem clsN_len (t : List Gd) (l : List Lt) (n : Nat) : (clsN t l n).length ≤ n := by
  unfold clsN
  rw [List.length_map]
  exact Nat.le_trans (List.length_filter_le _ _) (by simp)
theorem infoIntC : (Tryd.prog.info? 3).map (fun i => (i.zero, i.size, i.bytes)) = some (some (.int .i64 0), 1, 8) := by kernel_rfl
set_option maxHeartbeats 8000000 in
theorem classes_any (t : List Gd) (l : List Lt) (bt bm : Nat) (v : Value) (w : World) (hs : Sl w 2 v (l.map Lt.row)) (htab : Tab w bt bm t) (hn : (codes t).Nodup) (hok : ∀ g ∈ t, gdOk g = true) :
    Calls Tryd.prog 61 #[.pointer (some ⟨bt, 0, none⟩), v] w (RetRow w 3 1 (clsN t l 10).length (inCells (clsN t l 10))) := by
  have hll : l.length ≤ 9223372036854775807 := by have := hs.len_le; simp only [List.length_map, maxLen] at this; omega
  obtain ⟨a, c, rfl⟩ : ∃ a c, v = .slice a l.length c := by simpa using hs.shape
  obtain ⟨i0, hi, hz, hsz, hby⟩ := info_parts infoIntC
  have HI := Lib.hid (And.intro hi (And.intro hz (And.intro hsz hby)))
  clear hi hz hsz hby
  have HS := Lib.hid hs
  have HTB0 := Lib.hid htab.1
  have HMP0 := Lib.hid htab.2
  have HND := Lib.hid hn
  have HOK := Lib.hid hok
  clear hs htab hn hok
  go_enter Tryd.func61, Tryd.ntmps61
  go_wp2_with fail
  generalize hw2 : w.alloc (.cells #[.bool false, .bool false, .bool false, .bool false, .bool false, .bool false, .bool false, .bool false, .bool false, .bool false] 103) = w2
  generalize hba : w.heap.size = ba
  have HBA : Hid (ba = w.heap.size) := Lib.hid hba.symm
  have HB2 : Hid (Below w.heap.size w w2) := Lib.hid (by rw [← hw2]; exact one_below _ _)
  have HC2 : Hid (CB w2 ba fun c => hasC t (l.take 0) c) := Lib.hid (by
    rw [← hw2, ← hba]
    refine ⟨_, heap_alloc_new _ _, fun c hc => ?_⟩
    have : c = 0 ∨ c = 1 ∨ c = 2 ∨ c = 3 ∨ c = 4 ∨ c = 5 ∨ c = 6 ∨ c = 7 ∨ c = 8 ∨ c = 9 := by omega
    rcases this with rfl | rfl | rfl | rfl | rfl | rfl | rfl | rfl | rfl | rfl <;> rfl)
  clear hw2 hba
  go_loopw [7, 8, 9, 14] (fun _ _ _ i wr => ∃ k : Nat, k ≤ l.length ∧ i = .int .i64 k ∧ CB wr ba (fun c => hasC t (l.take k) c) ∧ Below w.heap.size w wr ∧ ba < wr.heap.size) (fun _ _ _ i _ => l.length - (intOf i).toNat)
  case atStart => exact ⟨0, Nat.zero_le _, rfl, HC2.out, HB2.out, HC2.out.lt⟩
  case round =>
    obtain ⟨k, hk, rfl, hcb, hbel, hlb⟩ := hrel
    have HBEL := Lib.hid hbel
    have HCB := Lib.hid hcb
    by_cases hlt : k < l.length
    · obtain ⟨b, off, rfl, -, hb, hc⟩ := HS.out.at (i := k) (by simpa using hlt)
      have d0 := (hbel.cell (p := ⟨b, off + k * 2, none⟩) hb).trans (hc k l[k].row (by simp [hlt]) 0 _ rfl)
      have d1 := (hbel.cell (p := ⟨b, off + k * 2 + 1, none⟩) hb).trans (hc k l[k].row (by simp [hlt]) 1 _ rfl)
      have hnx := hasC_next (t := t) hlt
      unfold isC at hnx
      generalize l[k] = x at *
      obtain ⟨xn, xc⟩ := x
      simp only at d0 d1 hnx
      have hg := gEnts_get HND.out xn
      have HX0 := Lib.hid (heap_alloc_new wr (.cells #[.string xn, .int .i64 xc] 35))
      have HB0 := Lib.hid (one_below wr (.cells #[.string xn, .int .i64 xc] 35))
      have HCB := Lib.hid (HCB.out.below HB0.out hlb)
      clear hc hbel hcb
      go_wp2_with fail
      obtain ⟨w3, hw3⟩ : ∃ x, x = wr.alloc (.cells #[.string xn, .int .i64 xc] 35) := ⟨_, rfl⟩
      obtain ⟨bx, hbx⟩ : ∃ b, b = wr.heap.size := ⟨_, rfl⟩
      rw [← hw3] at HX0 HB0 HCB ⊢
      rw [← hbx] at HX0 ⊢
      have HB3 := Lib.hid (HBEL.out.trans (HB0.out.mono HBEL.out.size))
      have HLT3 : Hid (ba < w3.heap.size) := Lib.hid (Nat.lt_of_lt_of_le hlb HB0.out.size)
      have HTC : Hid (∀ W, Below w3.heap.size w3 W → W.cell? ⟨bt, 0, none⟩ = some (.map (some bm))) := Lib.hid (fun W hW => cell_blk (blk (HB3.out.trans (hW.mono HB3.out.size)) (lt_blk HTB0.out) HTB0.out) 0)
      have HMP : Hid (∀ W, Below w3.heap.size w3 W → Mp.MapAt W bm (gEnts t)) := Lib.hid (fun W hW => HMP0.out.same ((HB3.out.trans (hW.mono HB3.out.size)).block bm HMP0.out.lt))
      have HKC : Hid (∀ W, Below w3.heap.size w3 W → W.cell? ⟨bx, 0, none⟩ = some (.string xn)) := Lib.hid (fun W hW => (lt_cells (blk hW (lt_blk HX0.out) HX0.out)).1)
      clear hw3 hbx d0 d1 hlb
      cases hgo : gOf t xn with
      | none =>
        have HGT : Hid (Mp.mget (gEnts t) xn = none) := Lib.hid (by rw [hg, hgo]; rfl)
        have HNX : Hid (∀ c, hasC t (l.take (k + 1)) c = hasC t (l.take k) c) := Lib.hid (fun c => by rw [hnx c, hgo]; simp)
        clear hgo hg hnx
        refine Ord.region_lit (fun
          | 0 => Ord.val (.pointer (some ⟨bt, 0, none⟩))
          | 1 => Ord.val (.pointer (some ⟨bt, 0, none⟩))
          | 2 => Ord.val (.pointer (some ⟨bt, 0, none⟩))
          | 3 => Ord.val (.map (some bm))
          | 4 => Ord.val (.pointer (some ⟨bx, 0, none⟩))
          | 5 => Ord.val (.string xn)
          | 6 => Ord.val (.tuple #[.agg #[.string ⟨#[]⟩, .int .i64 0, .int .i64 0, .int .i64 0], .bool false])
          | 7 => Ord.val (.tuple #[.agg #[.string ⟨#[]⟩, .int .i64 0, .int .i64 0, .int .i64 0], .bool false])
          | 8 => Ord.val (.agg #[.string ⟨#[]⟩, .int .i64 0, .int .i64 0, .int .i64 0])
          | 9 => Ord.val (.bool false)
          | 10 => Ord.box 49 #[.string ⟨#[]⟩, .int .i64 0, .int .i64 0, .int .i64 0]
          | 11 => Ord.filled 49 #[.string ⟨#[]⟩, .int .i64 0, .int .i64 0, .int .i64 0] (.tmp 8) 10
          | 12 => Ord.val (.bool false)
          | _ => Ord.idle) (fun _ => False) (by kernel_rfl) (by kernel_rfl) (by kernel_rfl) ?_ ?_ ?_ ?_
        · intro i _
          match i with
          | 0 => exact Ord.lasts_val _
          | 1 => exact Ord.lasts_val _
          | 2 => exact Ord.lasts_val _
          | 3 => exact Ord.lasts_val _
          | 4 => exact Ord.lasts_val _
          | 5 => exact Ord.lasts_val _
          | 6 => exact Ord.lasts_val _
          | 7 => exact Ord.lasts_val _
          | 8 => exact Ord.lasts_val _
          | 9 => exact Ord.lasts_val _
          | 10 => exact Ord.lasts_box _ _
          | 11 => exact Ord.lasts_filled _ _ _ _
          | 12 => exact Ord.lasts_val _
          | n + 13 => exact Ord.lasts_idle
        · refine ⟨fun k b _ hh => ?_, fun k b _ hh => ?_, fun k k' b _ _ hne h1 h2 => ?_⟩
          · match k, hh with
            | 0, hh => exact hh.elim
            | 1, hh => exact hh.elim
            | 2, hh => exact hh.elim
            | 3, hh => exact hh.elim
            | 4, hh => exact hh.elim
            | 5, hh => exact hh.elim
            | 6, hh => exact hh.elim
            | 7, hh => exact hh.elim
            | 8, hh => exact hh.elim
            | 9, hh => exact hh.elim
            | 10, hh => exact hh.elim
            | 11, hh => exact hh.elim
            | 12, hh => exact hh.elim
            | m + 13, hh => exact hh.elim
          · match k, hh with
            | 0, hh => exact hh.elim
            | 1, hh => exact hh.elim
            | 2, hh => exact hh.elim
            | 3, hh => exact hh.elim
            | 4, hh => exact hh.elim
            | 5, hh => exact hh.elim
            | 6, hh => exact hh.elim
            | 7, hh => exact hh.elim
            | 8, hh => exact hh.elim
            | 9, hh => exact hh.elim
            | 10, hh => exact hh.elim
            | 11, hh => exact hh.elim
            | 12, hh => exact hh.elim
            | m + 13, hh => exact hh.elim
          · match k, h1 with
            | 0, hh => exact hh.elim
            | 1, hh => exact hh.elim
            | 2, hh => exact hh.elim
            | 3, hh => exact hh.elim
            | 4, hh => exact hh.elim
            | 5, hh => exact hh.elim
            | 6, hh => exact hh.elim
            | 7, hh => exact hh.elim
            | 8, hh => exact hh.elim
            | 9, hh => exact hh.elim
            | 10, hh => exact hh.elim
            | 11, hh => exact hh.elim
            | 12, hh => exact hh.elim
            | m + 13, hh => exact hh.elim
        · refine ⟨?_, ?_, ?_, ?_, ?_, ?_, ?_, ?_, ?_, ?_, ?_, ?_, ?_, trivial⟩
          · refine Ord.owes_plain rfl fun ρ Os wo hs' hb hc' => ?_
            have h0 : ρ (.tmp 0) = .pointer (some ⟨bt, 0, none⟩) := hs'.old' 0 (by kernel_rfl)
            exact Any.ok_move (Ord.post_val rfl h0)
          · refine Ord.owes_plain rfl fun ρ Os wo hs' hb hc' => ?_
            have h19 : ρ (.tmp 19) = .pointer (some ⟨bt, 0, none⟩) := hs'.val' 19 0 (by kernel_rfl) rfl
            go_simp
            exact Ord.post_val rfl rfl
          · refine Ord.owes_plain rfl fun ρ Os wo hs' hb hc' => ?_
            have h20 : ρ (.tmp 20) = .pointer (some ⟨bt, 0, none⟩) := hs'.val' 20 1 (by kernel_rfl) rfl
            go_simp
            exact Ord.post_val rfl rfl
          · refine Ord.owes_plain rfl fun ρ Os wo hs' hb hc' => ?_
            have h21 : ρ (.tmp 21) = .pointer (some ⟨bt, 0, none⟩) := hs'.val' 21 2 (by kernel_rfl) rfl
            have c0 := (HTC.out wo (hb.undrew.below (Nat.le_refl _) (fun _ _ h => h)))
            go_simp
            exact Ord.post_val rfl rfl
          · refine Ord.owes_plain rfl fun ρ Os wo hs' hb hc' => ?_
            have h7 : ρ (.tmp 7) = .pointer (some ⟨bx, 0, none⟩) := hs'.old' 7 (by kernel_rfl)
            go_simp
            exact Ord.post_val rfl rfl
          · refine Ord.owes_plain rfl fun ρ Os wo hs' hb hc' => ?_
            have h23 : ρ (.tmp 23) = .pointer (some ⟨bx, 0, none⟩) := hs'.val' 23 4 (by kernel_rfl) rfl
            have c0 := (HKC.out wo (hb.undrew.below (Nat.le_refl _) (fun _ _ h => h)))
            go_simp
            exact Ord.post_val rfl rfl
          · refine Ord.owes_plain rfl fun ρ Os wo hs' hb hc' => ?_
            have h22 : ρ (.tmp 22) = .map (some bm) := hs'.val' 22 3 (by kernel_rfl) rfl
            have h24 : ρ (.tmp 24) = .string xn := hs'.val' 24 5 (by kernel_rfl) rfl
            refine Mp.ok_lookup Tryd.underlying65 Tryd.underlying9 (zeroGd _) (h22.trans rfl) (h24.trans rfl) (HMP.out wo (hb.undrew.below (Nat.le_refl _) (fun _ _ h => h))) ?_
            rw [HGT.out]
            exact Ord.post_val rfl rfl
          · refine Ord.owes_plain rfl fun ρ Os wo hs' hb hc' => ?_
            have h25 : ρ (.tmp 25) = .tuple #[.agg #[.string ⟨#[]⟩, .int .i64 0, .int .i64 0, .int .i64 0], .bool false] := hs'.val' 25 6 (by kernel_rfl) rfl
            exact Any.ok_move (Ord.post_val rfl h25)
          · refine Ord.owes_plain rfl fun ρ Os wo hs' hb hc' => ?_
            have h18 : ρ (.tmp 18) = .tuple #[.agg #[.string ⟨#[]⟩, .int .i64 0, .int .i64 0, .int .i64 0], .bool false] := hs'.val' 18 7 (by kernel_rfl) rfl
            go_simp
            exact Ord.post_val rfl rfl
          · refine Ord.owes_plain rfl fun ρ Os wo hs' hb hc' => ?_
            have h18 : ρ (.tmp 18) = .tuple #[.agg #[.string ⟨#[]⟩, .int .i64 0, .int .i64 0, .int .i64 0], .bool false] := hs'.val' 18 7 (by kernel_rfl) rfl
            go_simp
            exact Ord.post_val rfl rfl
          · refine Ord.owes_plain rfl fun ρ Os wo hs' hb hc' => ?_
            go_simp
            exact Ord.post_box rfl
          · refine Ord.owes_plain rfl fun ρ Os wo hs' hb hc' => ?_
            have h26 : ρ (.tmp 26) = .agg #[.string ⟨#[]⟩, .int .i64 0, .int .i64 0, .int .i64 0] := hs'.val' 26 8 (by kernel_rfl) rfl
            exact Ord.ok_filled (hs'.new' 8 10 (by kernel_rfl)) h26 (by kernel_rfl) rfl (by simp [Value.oneCell']) rfl
          · refine Ord.owes_plain rfl fun ρ Os wo hs' hb hc' => ?_
            have h27 : ρ (.tmp 27) = .bool false := hs'.val' 27 9 (by kernel_rfl) rfl
            exact Any.ok_assign (Ord.post_val rfl h27)
        · intro vals Os ρs w4 hk hkn hln hap hbd
          obtain ⟨bg, hp8, hbg, -⟩ := hkn 11 (by kernel_rfl)
          have h10 : vals 10 = .pointer (some ⟨bg, 0, none⟩) := (hln 11 8 10 (by kernel_rfl)).symm.trans hp8
          have h12 : vals 12 = .bool false := (hkn 12 (by kernel_rfl)).1
          have hbb : Below w3.heap.size w3 w4 := hk.below (Nat.le_refl _) (fun _ _ h => h)
          have HG4 := Lib.hid hbg
          have HB4 := Lib.hid (HB3.out.trans (hbb.mono HB3.out.size))
          have HCB := Lib.hid (HCB.out.below hbb HLT3.out)
          have HLT4 := Lib.hid (Nat.lt_of_lt_of_le HLT3.out hbb.size)
          clear hk hkn hln hap hbd hp8 hbg hbb
          simp only [Any.putAll]
          go_frame
          simp only [Nat.zero_add, Nat.reduceAdd]
          rw [h10, h12]
          clear h10 h12
          go_wp2_with fail
          go_roundw
          case rel => exact ⟨k + 1, by omega, by go_num, HCB.out.same (fun c hc => by rw [HNX.out]), HB4.out, HLT4.out⟩
          case measure => (simp [intOf]) <;> omega
      | some q =>
        have hq := gd_range (HOK.out q (gOf_mem hgo).1)
        obtain ⟨gn, gc, gw, gv⟩ := q
        have HGT : Hid (Mp.mget (gEnts t) xn = some (.agg #[.string gn, .int .i64 gc, .int .i64 gw, .int .i64 gv])) := Lib.hid (by rw [hg, hgo]; rfl)
        obtain ⟨-, -, hq0, hq1⟩ := hq
        simp only at hq0 hq1
        obtain ⟨d, rfl⟩ : ∃ d : Nat, gc = (d : Int) := ⟨gc.toNat, by omega⟩
        have HNX : Hid (∀ c, hasC t (l.take (k + 1)) c = (hasC t (l.take k) c || decide (c = d))) := Lib.hid (fun c => by rw [hnx c, hgo]; congr 1; simp only [decide_eq_decide]; omega)
        have hd10 : d < 10 := by omega
        have td : ((d : Nat) : Int) < 10 := by omega
        clear hgo hg hnx hq0 hq1
        refine Ord.region_lit (fun
          | 0 => Ord.val (.pointer (some ⟨bt, 0, none⟩))
          | 1 => Ord.val (.pointer (some ⟨bt, 0, none⟩))
          | 2 => Ord.val (.pointer (some ⟨bt, 0, none⟩))
          | 3 => Ord.val (.map (some bm))
          | 4 => Ord.val (.pointer (some ⟨bx, 0, none⟩))
          | 5 => Ord.val (.string xn)
          | 6 => Ord.val (.tuple #[.agg #[.string gn, .int .i64 (d : Int), .int .i64 gw, .int .i64 gv], .bool true])
          | 7 => Ord.val (.tuple #[.agg #[.string gn, .int .i64 (d : Int), .int .i64 gw, .int .i64 gv], .bool true])
          | 8 => Ord.val (.agg #[.string gn, .int .i64 (d : Int), .int .i64 gw, .int .i64 gv])
          | 9 => Ord.val (.bool true)
          | 10 => Ord.box 49 #[.string ⟨#[]⟩, .int .i64 0, .int .i64 0, .int .i64 0]
          | 11 => Ord.filled 49 #[.string gn, .int .i64 (d : Int), .int .i64 gw, .int .i64 gv] (.tmp 8) 10
          | 12 => Ord.val (.bool true)
          | _ => Ord.idle) (fun _ => False) (by kernel_rfl) (by kernel_rfl) (by kernel_rfl) ?_ ?_ ?_ ?_
        · intro i _
          match i with
          | 0 => exact Ord.lasts_val _
          | 1 => exact Ord.lasts_val _
          | 2 => exact Ord.lasts_val _
          | 3 => exact Ord.lasts_val _
          | 4 => exact Ord.lasts_val _
          | 5 => exact Ord.lasts_val _
          | 6 => exact Ord.lasts_val _
          | 7 => exact Ord.lasts_val _
          | 8 => exact Ord.lasts_val _
          | 9 => exact Ord.lasts_val _
          | 10 => exact Ord.lasts_box _ _
          | 11 => exact Ord.lasts_filled _ _ _ _
          | 12 => exact Ord.lasts_val _
          | n + 13 => exact Ord.lasts_idle
        · refine ⟨fun k b _ hh => ?_, fun k b _ hh => ?_, fun k k' b _ _ hne h1 h2 => ?_⟩
          · match k, hh with
            | 0, hh => exact hh.elim
            | 1, hh => exact hh.elim
            | 2, hh => exact hh.elim
            | 3, hh => exact hh.elim
            | 4, hh => exact hh.elim
            | 5, hh => exact hh.elim
            | 6, hh => exact hh.elim
            | 7, hh => exact hh.elim
            | 8, hh => exact hh.elim
            | 9, hh => exact hh.elim
            | 10, hh => exact hh.elim
            | 11, hh => exact hh.elim
            | 12, hh => exact hh.elim
            | m + 13, hh => exact hh.elim
          · match k, hh with
            | 0, hh => exact hh.elim
            | 1, hh => exact hh.elim
            | 2, hh => exact hh.elim
            | 3, hh => exact hh.elim
            | 4, hh => exact hh.elim
            | 5, hh => exact hh.elim
            | 6, hh => exact hh.elim
            | 7, hh => exact hh.elim
            | 8, hh => exact hh.elim
            | 9, hh => exact hh.elim
            | 10, hh => exact hh.elim
            | 11, hh => exact hh.elim
            | 12, hh => exact hh.elim
            | m + 13, hh => exact hh.elim
          · match k, h1 with
            | 0, hh => exact hh.elim
            | 1, hh => exact hh.elim
            | 2, hh => exact hh.elim
            | 3, hh => exact hh.elim
            | 4, hh => exact hh.elim
            | 5, hh => exact hh.elim
            | 6, hh => exact hh.elim
            | 7, hh => exact hh.elim
            | 8, hh => exact hh.elim
            | 9, hh => exact hh.elim
            | 10, hh => exact hh.elim
            | 11, hh => exact hh.elim
            | 12, hh => exact hh.elim
            | m + 13, hh => exact hh.elim
        · refine ⟨?_, ?_, ?_, ?_, ?_, ?_, ?_, ?_, ?_, ?_, ?_, ?_, ?_, trivial⟩
          · refine Ord.owes_plain rfl fun ρ Os wo hs' hb hc' => ?_
            have h0 : ρ (.tmp 0) = .pointer (some ⟨bt, 0, none⟩) := hs'.old' 0 (by kernel_rfl)
            exact Any.ok_move (Ord.post_val rfl h0)
          · refine Ord.owes_plain rfl fun ρ Os wo hs' hb hc' => ?_
            have h19 : ρ (.tmp 19) = .pointer (some ⟨bt, 0, none⟩) := hs'.val' 19 0 (by kernel_rfl) rfl
            go_simp
            exact Ord.post_val rfl rfl
          · refine Ord.owes_plain rfl fun ρ Os wo hs' hb hc' => ?_
            have h20 : ρ (.tmp 20) = .pointer (some ⟨bt, 0, none⟩) := hs'.val' 20 1 (by kernel_rfl) rfl
            go_simp
            exact Ord.post_val rfl rfl
          · refine Ord.owes_plain rfl fun ρ Os wo hs' hb hc' => ?_
            have h21 : ρ (.tmp 21) = .pointer (some ⟨bt, 0, none⟩) := hs'.val' 21 2 (by kernel_rfl) rfl
            have c0 := (HTC.out wo (hb.undrew.below (Nat.le_refl _) (fun _ _ h => h)))
            go_simp
            exact Ord.post_val rfl rfl
          · refine Ord.owes_plain rfl fun ρ Os wo hs' hb hc' => ?_
            have h7 : ρ (.tmp 7) = .pointer (some ⟨bx, 0, none⟩) := hs'.old' 7 (by kernel_rfl)
            go_simp
            exact Ord.post_val rfl rfl
          · refine Ord.owes_plain rfl fun ρ Os wo hs' hb hc' => ?_
            have h23 : ρ (.tmp 23) = .pointer (some ⟨bx, 0, none⟩) := hs'.val' 23 4 (by kernel_rfl) rfl
            have c0 := (HKC.out wo (hb.undrew.below (Nat.le_refl _) (fun _ _ h => h)))
            go_simp
            exact Ord.post_val rfl rfl
          · refine Ord.owes_plain rfl fun ρ Os wo hs' hb hc' => ?_
            have h22 : ρ (.tmp 22) = .map (some bm) := hs'.val' 22 3 (by kernel_rfl) rfl
            have h24 : ρ (.tmp 24) = .string xn := hs'.val' 24 5 (by kernel_rfl) rfl
            refine Mp.ok_lookup Tryd.underlying65 Tryd.underlying9 (zeroGd _) (h22.trans rfl) (h24.trans rfl) (HMP.out wo (hb.undrew.below (Nat.le_refl _) (fun _ _ h => h))) ?_
            rw [HGT.out]
            exact Ord.post_val rfl rfl
          · refine Ord.owes_plain rfl fun ρ Os wo hs' hb hc' => ?_
            have h25 : ρ (.tmp 25) = .tuple #[.agg #[.string gn, .int .i64 (d : Int), .int .i64 gw, .int .i64 gv], .bool true] := hs'.val' 25 6 (by kernel_rfl) rfl
            exact Any.ok_move (Ord.post_val rfl h25)
          · refine Ord.owes_plain rfl fun ρ Os wo hs' hb hc' => ?_
            have h18 : ρ (.tmp 18) = .tuple #[.agg #[.string gn, .int .i64 (d : Int), .int .i64 gw, .int .i64 gv], .bool true] := hs'.val' 18 7 (by kernel_rfl) rfl
            go_simp
            exact Ord.post_val rfl rfl
          · refine Ord.owes_plain rfl fun ρ Os wo hs' hb hc' => ?_
            have h18 : ρ (.tmp 18) = .tuple #[.agg #[.string gn, .int .i64 (d : Int), .int .i64 gw, .int .i64 gv], .bool true] := hs'.val' 18 7 (by kernel_rfl) rfl
            go_simp
            exact Ord.post_val rfl rfl
          · refine Ord.owes_plain rfl fun ρ Os wo hs' hb hc' => ?_
            go_simp
            exact Ord.post_box rfl
          · refine Ord.owes_plain rfl fun ρ Os wo hs' hb hc' => ?_
            have h26 : ρ (.tmp 26) = .agg #[.string gn, .int .i64 (d : Int), .int .i64 gw, .int .i64 gv] := hs'.val' 26 8 (by kernel_rfl) rfl
            exact Ord.ok_filled (hs'.new' 8 10 (by kernel_rfl)) h26 (by kernel_rfl) rfl (by simp [Value.oneCell']) rfl
          · refine Ord.owes_plain rfl fun ρ Os wo hs' hb hc' => ?_
            have h27 : ρ (.tmp 27) = .bool true := hs'.val' 27 9 (by kernel_rfl) rfl
            exact Any.ok_assign (Ord.post_val rfl h27)
        · intro vals Os ρs w4 hk hkn hln hap hbd
          obtain ⟨bg, hp8, hbg, -⟩ := hkn 11 (by kernel_rfl)
          have h10 : vals 10 = .pointer (some ⟨bg, 0, none⟩) := (hln 11 8 10 (by kernel_rfl)).symm.trans hp8
          have h12 : vals 12 = .bool true := (hkn 12 (by kernel_rfl)).1
          have hbb : Below w3.heap.size w3 w4 := hk.below (Nat.le_refl _) (fun _ _ h => h)
          have HG4 := Lib.hid hbg
          have HB4 := Lib.hid (HB3.out.trans (hbb.mono HB3.out.size))
          have HCB := Lib.hid (HCB.out.below hbb HLT3.out)
          have HLT4 := Lib.hid (Nat.lt_of_lt_of_le HLT3.out hbb.size)
          clear hk hkn hln hap hbd hp8 hbg hbb
          simp only [Any.putAll]
          go_frame
          simp only [Nat.zero_add, Nat.reduceAdd]
          rw [h10, h12]
          clear h10 h12
          have HG5 := Lib.hid (cell_blk HG4.out 1)
          have x1 : w4.cell? ⟨bg, 1, none⟩ = some (.int .i64 (d : Int)) := HG5.out
          have y1 : w4.cell? ⟨ba, d, none⟩ = some (.bool (hasC t (l.take k) d)) := HCB.out.cell hd10
          have z1 := HCB.out.free d
          have HS5 := Lib.hid (HCB.out.set hd10)
          go_wp2_with fail
          go_roundw
          case rel => exact ⟨k + 1, by omega, by go_num, HS5.out.same (fun c hc => by rw [HNX.out]), HB4.out.setCell (by show w.heap.size ≤ ba; have := HBA.out; omega) _, by simpa [World.setCell] using HLT4.out⟩
          case measure => (simp [intOf]) <;> omega
    · have hkl : k = l.length := by omega
      have HCL : Hid (CB wr ba fun c => hasC t l c) := Lib.hid (hcb.same (fun c _ => by rw [hkl, List.take_length]))
      have HLB := Lib.hid hlb
      clear hcb hbel hlb hkl hk
      go_wp2_with fail
      generalize wr = w5 at *
      go_loopw [10, 11, 33] (fun o _ i wr => ∃ k : Nat, k ≤ 10 ∧ i = .int .i64 k ∧ wr.ownsRow w5.heap.size 3 1 o (clsN t l k).length (inCells (clsN t l k)) ∧ CB wr ba (fun c => hasC t l c) ∧ Below w.heap.size w wr ∧ w5.heap.size ≤ wr.heap.size) (fun _ _ i _ => 10 - (intOf i).toNat)
      case atStart => exact ⟨0, by omega, rfl, World.ownsRow_nil _ _ _ _, HCL.out, HBEL.out, Nat.le_refl _⟩
      case round =>
        obtain ⟨k, hk, rfl, hown, hcb, hbel, hwc⟩ := hrel
        have HOWN := Lib.hid hown
        have HBC := Lib.hid hbel
        have HCC := Lib.hid hcb
        by_cases hlt : k < 10
        · have tk : ((k : Nat) : Int) < 10 := by omega
          have y1 : wr.cell? ⟨ba, k, none⟩ = some (.bool (hasC t l k)) := hcb.cell hlt
          have HN := Lib.hid (clsN_succ t l k)
          have HL : Hid ((clsN t l k).length + 1 ≤ maxLen ∧ ((clsN t l k).length + 1) * 8 ≤ 140737488355328 ∧ w5.heap.size ≤ wr.heap.size) := Lib.hid (by have h1 := clsN_len t l k; simp only [maxLen]; omega)
          clear hown hcb hbel hwc
          cases hc : hasC t l k
          · rw [hc] at y1 HN
            clear hc
            go_wp2_with fail
            go_roundw
            case rel => exact ⟨k + 1, by omega, by go_num, by rw [HN.out]; simpa using HOWN.out, HCC.out, HBC.out, HL.out.2.2⟩
            case measure => (simp [intOf]) <;> omega
          · rw [hc] at y1 HN
            clear hc
            go_wp2_with (first
              | ((with_reducible refine Any.wpl_push ?_ ?_ ?_ Tryd.underlying97 HI.out.1 HI.out.2.1 HI.out.2.2.1 HI.out.2.2.2 ?_ (by decide) ?_ (int_one (k : Int)) (HOWN.out) HL.out.1 HL.out.2.1 HL.out.2.2 ?_); rfl; rfl; rfl; rfl; rfl; intro v3 w3 hown3 hgrow3 hwho3)
              | fail)
            have HB3 := Lib.hid (HBC.out.grown hgrow3 HBC.out.size (fun b hb => Nat.le_trans HBEL.out.size (HOWN.out.lt b hb).1))
            have HC3 : Hid (CB w3 ba fun c => hasC t l c) := Lib.hid (by
              obtain ⟨cs, h1, h2⟩ := HCC.out
              exact ⟨cs, (hgrow3.block ba (lt_blk h1) (fun e => by have h3 := (HOWN.out.lt ba e.symm).1; have := HLB.out; omega)).trans h1, h2⟩)
            have HS3 := Lib.hid (Nat.le_trans HL.out.2.2 hgrow3.size)
            have HO3 := Lib.hid hown3
            clear hown3 hgrow3 hwho3
            go_roundw
            case rel => exact ⟨k + 1, by omega, by go_num, by rw [HN.out, if_pos rfl, List.length_append]; simpa [inCells] using HO3.out, HC3.out, HB3.out, HS3.out⟩
            case measure => (simp [intOf]) <;> omega
        · obtain rfl : k = 10 := by omega
          clear hown hcb hbel hwc
          go_wp2_with fail
          go_ret
          exact retRow HOWN.out HBEL.out.size HBC.out
end Go.Proofs.YtgnfdplphpejaaaDoor.Sc
