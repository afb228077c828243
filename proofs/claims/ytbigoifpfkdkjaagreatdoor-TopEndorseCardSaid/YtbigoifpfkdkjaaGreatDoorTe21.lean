/- Classes of parts; who may lie together in parts; plainly. -/
import Derived.Test.YtbigoifpfkdkjaaGreatDoorTe19
import Derived.Test.YtbigoifpfkdkjaaGreatDoorTe05
import Derived.Test.YtbigoifpfkdkjaaGreatDoorTe20
namespace Go.Proofs.YtbigoifpfkdkjaaGreatDoor.Sc
open Go Go.RowKit Go.ChangeShapes Go.WideShapes Go.ChangeAt
set_option maxRecDepth 100000

/-- Is there a lot of that class? -/
def isC (t : List Gd) (c : Nat) (x : Lt) : Bool := match gOf t x.good with
  | some g => decide (g.cls = (c : Int))
  | none => false
def hasC (t : List Gd) (l : List Lt) (c : Nat) : Bool := l.any (isC t c)
def clsN (t : List Gd) (l : List Lt) (n : Nat) : List Int := ((List.range n).filter (hasC t l)).map fun c : Nat => (c : Int)
theorem clsN_succ (t : List Gd) (l : List Lt) (n : Nat) : clsN t l (n + 1) = clsN t l n ++ if hasC t l n then [(n : Int)] else [] := by
  unfold clsN
  rw [List.range_succ, List.filter_append, List.map_append]
  cases h : hasC t l n <;> simp [h]
theorem hasC_next {t : List Gd} {l : List Lt} {k : Nat} (h : k < l.length) (c : Nat) : hasC t (l.take (k + 1)) c = (hasC t (l.take k) c || isC t c l[k]) := by
  rw [hasC, List.take_succ_eq_append_getElem h, List.any_append]
  simp [hasC]
/-- Ten marks in memory. -/
def CB (w : World) (b : Nat) (f : Nat → Bool) : Prop := ∃ cs : Array Value, w.heap[b]? = some (.cells cs 232 (0, 0)) ∧ ∀ c, c < 10 → cs[c]? = some (.bool (f c))
theorem CB.same {w : World} {b : Nat} {f g : Nat → Bool} (h : CB w b f) (e : ∀ c, c < 10 → g c = f c) : CB w b g := by
  obtain ⟨cs, h1, h2⟩ := h
  exact ⟨cs, h1, fun c hc => by rw [e c hc]; exact h2 c hc⟩
theorem CB.below {w w' : World} {b n : Nat} {f : Nat → Bool} (h : CB w b f) (hb : Below n w w') (hn : b < n) : CB w' b f := by
  obtain ⟨cs, h1, h2⟩ := h
  exact ⟨cs, blk hb hn h1, h2⟩
theorem CB.cell {w : World} {b : Nat} {f : Nat → Bool} (h : CB w b f) {c : Nat} (hc : c < 10) : w.cell? ⟨b, c, none⟩ = some (.bool (f c)) := by
  obtain ⟨cs, h1, h2⟩ := h
  rw [cell_blk h1 c]
  exact h2 c hc
theorem CB.free {w : World} {b : Nat} {f : Nat → Bool} (h : CB w b f) (c : Nat) : w.frozen? ⟨b, c, none⟩ = false := by
  obtain ⟨cs, h1, h2⟩ := h
  exact free_blk h1 c
theorem CB.lt {w : World} {b : Nat} {f : Nat → Bool} (h : CB w b f) : b < w.heap.size := by
  obtain ⟨cs, h1, h2⟩ := h
  exact lt_blk h1
theorem CB.set {w : World} {b : Nat} {f : Nat → Bool} (h : CB w b f) {c : Nat} (hc : c < 10) : CB (w.setCell ⟨b, c, none⟩ (.bool true)) b (fun d => f d || decide (d = c)) := by
  obtain ⟨cs, h1, h2⟩ := h
  refine ⟨cs.set! c (.bool true), ?_, fun d hd => ?_⟩
  · simp [World.setCell, Array.getElem?_modify, h1]
  · by_cases e : c = d
    · subst e
      have := (Array.getElem?_eq_some_iff.1 (h2 c hc)).1
      simp [Array.set!, this]
    · have := h2 d hd
      have e' : ¬ d = c := fun h => e h.symm
      simp [Array.set!, e, e', this]
def inCells (l : List Int) : List Value := l.map (Value.int .i64)
theorem int_one (n : Int) : ∀ u ∈ (#[Value.int .i64 n] : Array Value).toList, u.oneCell' = true := by
  intro u hu
  simp at hu
  subst hu
  rfl
theorem clsN_len (t : List Gd) (l : List Lt) (n : Nat) : (clsN t l n).length ≤ n := by
  unfold clsN
  rw [List.length_map]
  exact Nat.le_trans (List.length_filter_le _ _) (by simp)
theorem infoIntC : (Tryz.prog.info? 3).map (fun i => (i.zero, i.size, i.bytes)) = some (some (.int .i64 0), 1, 8) := by kernel_rfl
set_option maxHeartbeats 8000000 in
theorem classes_any (t : List Gd) (l : List Lt) (bt bm : Nat) (v : Value) (w : World) (hs : Sl w 2 v (l.map Lt.row)) (htab : Tab w bt bm t) (hn : (codes t).Nodup) (hok : ∀ g ∈ t, gdOk g = true) :
    Calls Tryz.prog 88 #[.pointer (some ⟨bt, 0, none⟩), v] w (RetRow w 3 1 (clsN t l 10).length (inCells (clsN t l 10))) := by
  have hll : l.length ≤ 9223372036854775807 := by have := hs.len_le; simp only [List.length_map, maxLen] at this; omega
  obtain ⟨a, c, rfl⟩ : ∃ a c, v = .slice a l.length c := by simpa using hs.shape
  obtain ⟨i0, hi, hz, hsz, hby⟩ := info_parts infoIntC
  have HI := Lib.hid (And.intro hi (And.intro hz (And.intro hsz hby)))
  clear hi hz hsz hby
  have HS := Lib.hid hs
  have HTB0 := Lib.hid htab.1
  have HMP0 := Lib.hid htab.2
  have HND := Lib.hid hn
  have HOK := Lib.hid hok
  clear hs htab hn hok
  go_enter Tryz.func88, Tryz.ntmps88
  go_wp2_with fail
  generalize hw2 : w.alloc (.cells #[.bool false, .bool false, .bool false, .bool false, .bool false, .bool false, .bool false, .bool false, .bool false, .bool false] 232) = w2
  generalize hba : w.heap.size = ba
  have HBA : Hid (ba = w.heap.size) := Lib.hid hba.symm
  have HB2 : Hid (Below w.heap.size w w2) := Lib.hid (by rw [← hw2]; exact one_below _ _)
  have HC2 : Hid (CB w2 ba fun c => hasC t (l.take 0) c) := Lib.hid (by
    rw [← hw2, ← hba]
    refine ⟨_, heap_alloc_new _ _, fun c hc => ?_⟩
    have : c = 0 ∨ c = 1 ∨ c = 2 ∨ c = 3 ∨ c = 4 ∨ c = 5 ∨ c = 6 ∨ c = 7 ∨ c = 8 ∨ c = 9 := by omega
    rcases this with rfl | rfl | rfl | rfl | rfl | rfl | rfl | rfl | rfl | rfl <;> rfl)
  clear hw2 hba
  go_loopw [7, 8, 9, 14] (fun _ _ _ i wr => ∃ k : Nat, k ≤ l.length ∧ i = .int .i64 k ∧ CB wr ba (fun c => hasC t (l.take k) c) ∧ Below w.heap.size w wr ∧ ba < wr.heap.size) (fun _ _ _ i _ => l.length - (intOf i).toNat)
  case atStart => exact ⟨0, Nat.zero_le _, rfl, HC2.out, HB2.out, HC2.out.lt⟩
  case round =>
    obtain ⟨k, hk, rfl, hcb, hbel, hlb⟩ := hrel
    have HBEL := Lib.hid hbel
    have HCB := Lib.hid hcb
    by_cases hlt : k < l.length
    · obtain ⟨b, off, rfl, -, hb, hc⟩ := HS.out.at (i := k) (by simpa using hlt)
      have d0 := (hbel.cell (p := ⟨b, off + k * 2, none⟩) hb).trans (hc k l[k].row (by simp [hlt]) 0 _ rfl)
      have d1 := (hbel.cell (p := ⟨b, off + k * 2 + 1, none⟩) hb).trans (hc k l[k].row (by simp [hlt]) 1 _ rfl)
      have hnx := hasC_next (t := t) hlt
      unfold isC at hnx
      generalize l[k] = x at *
      obtain ⟨xn, xc⟩ := x
      simp only at d0 d1 hnx
      have hg := gEnts_get HND.out xn
      have HX0 := Lib.hid (heap_alloc_new wr (.cells #[.string xn, .int .i64 xc] 107))
      have HB0 := Lib.hid (one_below wr (.cells #[.string xn, .int .i64 xc] 107))
      have HCB := Lib.hid (HCB.out.below HB0.out hlb)
      clear hc hbel hcb
      go_wp2_with fail
      obtain ⟨w3, hw3⟩ : ∃ x, x = wr.alloc (.cells #[.string xn, .int .i64 xc] 107) := ⟨_, rfl⟩
      obtain ⟨bx, hbx⟩ : ∃ b, b = wr.heap.size := ⟨_, rfl⟩
      rw [← hw3] at HX0 HB0 HCB ⊢
      rw [← hbx] at HX0 ⊢
      have HB3 := Lib.hid (HBEL.out.trans (HB0.out.mono HBEL.out.size))
      have HLT3 : Hid (ba < w3.heap.size) := Lib.hid (Nat.lt_of_lt_of_le hlb HB0.out.size)
      have HTC : Hid (∀ W, Below w3.heap.size w3 W → W.cell? ⟨bt, 0, none⟩ = some (.map (some bm))) := Lib.hid (fun W hW => cell_blk (blk (HB3.out.trans (hW.mono HB3.out.size)) (lt_blk HTB0.out) HTB0.out) 0)
      have HMP : Hid (∀ W, Below w3.heap.size w3 W → Mp.MapAt W bm (gEnts t)) := Lib.hid (fun W hW => HMP0.out.same ((HB3.out.trans (hW.mono HB3.out.size)).block bm HMP0.out.lt))
      have HKC : Hid (∀ W, Below w3.heap.size w3 W → W.cell? ⟨bx, 0, none⟩ = some (.string xn)) := Lib.hid (fun W hW => (lt_cells (blk hW (lt_blk HX0.out) HX0.out)).1)
      clear hw3 hbx d0 d1 hlb
      cases hgo : gOf t xn with
      | none =>
        have HGT : Hid (Mp.mget (gEnts t) xn = none) := Lib.hid (by rw [hg, hgo]; rfl)
        have HNX : Hid (∀ c, hasC t (l.take (k + 1)) c = hasC t (l.take k) c) := Lib.hid (fun c => by rw [hnx c, hgo]; simp)
        clear hgo hg hnx
        refine Ord.region_lit (fun
          | 0 => Ord.val (.pointer (some ⟨bt, 0, none⟩))
          | 1 => Ord.val (.pointer (some ⟨bt, 0, none⟩))
          | 2 => Ord.val (.pointer (some ⟨bt, 0, none⟩))
          | 3 => Ord.val (.map (some bm))
          | 4 => Ord.val (.pointer (some ⟨bx, 0, none⟩))
          | 5 => Ord.val (.string xn)
          | 6 => Ord.val (.tuple #[.agg #[.string ⟨#[]⟩, .int .i64 0, .int .i64 0, .int .i64 0], .bool false])
          | 7 => Ord.val (.tuple #[.agg #[.string ⟨#[]⟩, .int .i64 0, .int .i64 0, .int .i64 0], .bool false])
          | 8 => Ord.val (.agg #[.string ⟨#[]⟩, .int .i64 0, .int .i64 0, .int .i64 0])
          | 9 => Ord.val (.bool false)
          | 10 => Ord.box 84 #[.string ⟨#[]⟩, .int .i64 0, .int .i64 0, .int .i64 0]
          | 11 => Ord.filled 84 #[.string ⟨#[]⟩, .int .i64 0, .int .i64 0, .int .i64 0] (.tmp 8) 10
          | 12 => Ord.val (.bool false)
          | _ => Ord.idle) (fun _ => False) (by kernel_rfl) (by kernel_rfl) (by kernel_rfl) ?_ ?_ ?_ ?_
        · intro i _
          match i with
          | 0 => exact Ord.lasts_val _
          | 1 => exact Ord.lasts_val _
          | 2 => exact Ord.lasts_val _
          | 3 => exact Ord.lasts_val _
          | 4 => exact Ord.lasts_val _
          | 5 => exact Ord.lasts_val _
          | 6 => exact Ord.lasts_val _
          | 7 => exact Ord.lasts_val _
          | 8 => exact Ord.lasts_val _
          | 9 => exact Ord.lasts_val _
          | 10 => exact Ord.lasts_box _ _
          | 11 => exact Ord.lasts_filled _ _ _ _
          | 12 => exact Ord.lasts_val _
          | n + 13 => exact Ord.lasts_idle
        · refine ⟨fun k b _ hh => ?_, fun k b _ hh => ?_, fun k k' b _ _ hne h1 h2 => ?_⟩
          · match k, hh with
            | 0, hh => exact hh.elim
            | 1, hh => exact hh.elim
            | 2, hh => exact hh.elim
            | 3, hh => exact hh.elim
            | 4, hh => exact hh.elim
            | 5, hh => exact hh.elim
            | 6, hh => exact hh.elim
            | 7, hh => exact hh.elim
            | 8, hh => exact hh.elim
            | 9, hh => exact hh.elim
            | 10, hh => exact hh.elim
            | 11, hh => exact hh.elim
            | 12, hh => exact hh.elim
            | m + 13, hh => exact hh.elim
          · match k, hh with
            | 0, hh => exact hh.elim
            | 1, hh => exact hh.elim
            | 2, hh => exact hh.elim
            | 3, hh => exact hh.elim
            | 4, hh => exact hh.elim
            | 5, hh => exact hh.elim
            | 6, hh => exact hh.elim
            | 7, hh => exact hh.elim
            | 8, hh => exact hh.elim
            | 9, hh => exact hh.elim
            | 10, hh => exact hh.elim
            | 11, hh => exact hh.elim
            | 12, hh => exact hh.elim
            | m + 13, hh => exact hh.elim
          · match k, h1 with
            | 0, hh => exact hh.elim
            | 1, hh => exact hh.elim
            | 2, hh => exact hh.elim
            | 3, hh => exact hh.elim
            | 4, hh => exact hh.elim
            | 5, hh => exact hh.elim
            | 6, hh => exact hh.elim
            | 7, hh => exact hh.elim
            | 8, hh => exact hh.elim
            | 9, hh => exact hh.elim
            | 10, hh => exact hh.elim
            | 11, hh => exact hh.elim
            | 12, hh => exact hh.elim
            | m + 13, hh => exact hh.elim
        · refine ⟨?_, ?_, ?_, ?_, ?_, ?_, ?_, ?_, ?_, ?_, ?_, ?_, ?_, trivial⟩
          · refine Ord.owes_plain rfl fun ρ Os wo hs' hb hc' => ?_
            have h0 : ρ (.tmp 0) = .pointer (some ⟨bt, 0, none⟩) := hs'.old' 0 (by kernel_rfl)
            exact Any.ok_move (Ord.post_val rfl h0)
          · refine Ord.owes_plain rfl fun ρ Os wo hs' hb hc' => ?_
            have h19 : ρ (.tmp 19) = .pointer (some ⟨bt, 0, none⟩) := hs'.val' 19 0 (by kernel_rfl) rfl
            go_simp
            exact Ord.post_val rfl rfl
          · refine Ord.owes_plain rfl fun ρ Os wo hs' hb hc' => ?_
            have h20 : ρ (.tmp 20) = .pointer (some ⟨bt, 0, none⟩) := hs'.val' 20 1 (by kernel_rfl) rfl
            go_simp
            exact Ord.post_val rfl rfl
          · refine Ord.owes_plain rfl fun ρ Os wo hs' hb hc' => ?_
            have h21 : ρ (.tmp 21) = .pointer (some ⟨bt, 0, none⟩) := hs'.val' 21 2 (by kernel_rfl) rfl
            have c0 := (HTC.out wo (hb.undrew.below (Nat.le_refl _) (fun _ _ h => h)))
            go_simp
            exact Ord.post_val rfl rfl
          · refine Ord.owes_plain rfl fun ρ Os wo hs' hb hc' => ?_
            have h7 : ρ (.tmp 7) = .pointer (some ⟨bx, 0, none⟩) := hs'.old' 7 (by kernel_rfl)
            go_simp
            exact Ord.post_val rfl rfl
          · refine Ord.owes_plain rfl fun ρ Os wo hs' hb hc' => ?_
            have h23 : ρ (.tmp 23) = .pointer (some ⟨bx, 0, none⟩) := hs'.val' 23 4 (by kernel_rfl) rfl
            have c0 := (HKC.out wo (hb.undrew.below (Nat.le_refl _) (fun _ _ h => h)))
            go_simp
            exact Ord.post_val rfl rfl
          · refine Ord.owes_plain rfl fun ρ Os wo hs' hb hc' => ?_
            have h22 : ρ (.tmp 22) = .map (some bm) := hs'.val' 22 3 (by kernel_rfl) rfl
            have h24 : ρ (.tmp 24) = .string xn := hs'.val' 24 5 (by kernel_rfl) rfl
            refine Mp.ok_lookup Tryz.underlying169 Tryz.underlying9 (zeroGd _) (h22.trans rfl) (h24.trans rfl) (HMP.out wo (hb.undrew.below (Nat.le_refl _) (fun _ _ h => h))) ?_
            rw [HGT.out]
            exact Ord.post_val rfl rfl
          · refine Ord.owes_plain rfl fun ρ Os wo hs' hb hc' => ?_
            have h25 : ρ (.tmp 25) = .tuple #[.agg #[.string ⟨#[]⟩, .int .i64 0, .int .i64 0, .int .i64 0], .bool false] := hs'.val' 25 6 (by kernel_rfl) rfl
            exact Any.ok_move (Ord.post_val rfl h25)
          · refine Ord.owes_plain rfl fun ρ Os wo hs' hb hc' => ?_
            have h18 : ρ (.tmp 18) = .tuple #[.agg #[.string ⟨#[]⟩, .int .i64 0, .int .i64 0, .int .i64 0], .bool false] := hs'.val' 18 7 (by kernel_rfl) rfl
            go_simp
            exact Ord.post_val rfl rfl
          · refine Ord.owes_plain rfl fun ρ Os wo hs' hb hc' => ?_
            have h18 : ρ (.tmp 18) = .tuple #[.agg #[.string ⟨#[]⟩, .int .i64 0, .int .i64 0, .int .i64 0], .bool false] := hs'.val' 18 7 (by kernel_rfl) rfl
            go_simp
            exact Ord.post_val rfl rfl
          · refine Ord.owes_plain rfl fun ρ Os wo hs' hb hc' => ?_
            go_simp
            exact Ord.post_box rfl
          · refine Ord.owes_plain rfl fun ρ Os wo hs' hb hc' => ?_
            have h26 : ρ (.tmp 26) = .agg #[.string ⟨#[]⟩, .int .i64 0, .int .i64 0, .int .i64 0] := hs'.val' 26 8 (by kernel_rfl) rfl
            exact Ord.ok_filled (hs'.new' 8 10 (by kernel_rfl)) h26 (by kernel_rfl) rfl (by simp [Value.oneCell']) rfl
          · refine Ord.owes_plain rfl fun ρ Os wo hs' hb hc' => ?_
            have h27 : ρ (.tmp 27) = .bool false := hs'.val' 27 9 (by kernel_rfl) rfl
            exact Any.ok_assign (Ord.post_val rfl h27)
        · intro vals Os ρs w4 hk hkn hln hap hbd
          obtain ⟨bg, hp8, hbg, -⟩ := hkn 11 (by kernel_rfl)
          have h10 : vals 10 = .pointer (some ⟨bg, 0, none⟩) := (hln 11 8 10 (by kernel_rfl)).symm.trans hp8
          have h12 : vals 12 = .bool false := (hkn 12 (by kernel_rfl)).1
          have hbb : Below w3.heap.size w3 w4 := hk.below (Nat.le_refl _) (fun _ _ h => h)
          have HG4 := Lib.hid hbg
          have HB4 := Lib.hid (HB3.out.trans (hbb.mono HB3.out.size))
          have HCB := Lib.hid (HCB.out.below hbb HLT3.out)
          have HLT4 := Lib.hid (Nat.lt_of_lt_of_le HLT3.out hbb.size)
          clear hk hkn hln hap hbd hp8 hbg hbb
          simp only [Any.putAll]
          go_frame
          simp only [Nat.zero_add, Nat.reduceAdd]
          rw [h10, h12]
          clear h10 h12
          go_wp2_with fail
          go_roundw
          case rel => exact ⟨k + 1, by omega, by go_num, HCB.out.same (fun c hc => by rw [HNX.out]), HB4.out, HLT4.out⟩
          case measure => (simp [intOf]) <;> omega
      | some q =>
        have hq := gd_range (HOK.out q (gOf_mem hgo).1)
        obtain ⟨gn, gc, gw, gv⟩ := q
        have HGT : Hid (Mp.mget (gEnts t) xn = some (.agg #[.string gn, .int .i64 gc, .int .i64 gw, .int .i64 gv])) := Lib.hid (by rw [hg, hgo]; rfl)
        obtain ⟨-, -, hq0, hq1⟩ := hq
        simp only at hq0 hq1
        obtain ⟨d, rfl⟩ : ∃ d : Nat, gc = (d : Int) := ⟨gc.toNat, by omega⟩
        have HNX : Hid (∀ c, hasC t (l.take (k + 1)) c = (hasC t (l.take k) c || decide (c = d))) := Lib.hid (fun c => by rw [hnx c, hgo]; congr 1; simp only [decide_eq_decide]; omega)
        have hd10 : d < 10 := by omega
        have td : ((d : Nat) : Int) < 10 := by omega
        clear hgo hg hnx hq0 hq1
        refine Ord.region_lit (fun
          | 0 => Ord.val (.pointer (some ⟨bt, 0, none⟩))
          | 1 => Ord.val (.pointer (some ⟨bt, 0, none⟩))
          | 2 => Ord.val (.pointer (some ⟨bt, 0, none⟩))
          | 3 => Ord.val (.map (some bm))
          | 4 => Ord.val (.pointer (some ⟨bx, 0, none⟩))
          | 5 => Ord.val (.string xn)
          | 6 => Ord.val (.tuple #[.agg #[.string gn, .int .i64 (d : Int), .int .i64 gw, .int .i64 gv], .bool true])
          | 7 => Ord.val (.tuple #[.agg #[.string gn, .int .i64 (d : Int), .int .i64 gw, .int .i64 gv], .bool true])
          | 8 => Ord.val (.agg #[.string gn, .int .i64 (d : Int), .int .i64 gw, .int .i64 gv])
          | 9 => Ord.val (.bool true)
          | 10 => Ord.box 84 #[.string ⟨#[]⟩, .int .i64 0, .int .i64 0, .int .i64 0]
          | 11 => Ord.filled 84 #[.string gn, .int .i64 (d : Int), .int .i64 gw, .int .i64 gv] (.tmp 8) 10
          | 12 => Ord.val (.bool true)
          | _ => Ord.idle) (fun _ => False) (by kernel_rfl) (by kernel_rfl) (by kernel_rfl) ?_ ?_ ?_ ?_
        · intro i _
          match i with
          | 0 => exact Ord.lasts_val _
          | 1 => exact Ord.lasts_val _
          | 2 => exact Ord.lasts_val _
          | 3 => exact Ord.lasts_val _
          | 4 => exact Ord.lasts_val _
          | 5 => exact Ord.lasts_val _
          | 6 => exact Ord.lasts_val _
          | 7 => exact Ord.lasts_val _
          | 8 => exact Ord.lasts_val _
          | 9 => exact Ord.lasts_val _
          | 10 => exact Ord.lasts_box _ _
          | 11 => exact Ord.lasts_filled _ _ _ _
          | 12 => exact Ord.lasts_val _
          | n + 13 => exact Ord.lasts_idle
        · refine ⟨fun k b _ hh => ?_, fun k b _ hh => ?_, fun k k' b _ _ hne h1 h2 => ?_⟩
          · match k, hh with
            | 0, hh => exact hh.elim
            | 1, hh => exact hh.elim
            | 2, hh => exact hh.elim
            | 3, hh => exact hh.elim
            | 4, hh => exact hh.elim
            | 5, hh => exact hh.elim
            | 6, hh => exact hh.elim
            | 7, hh => exact hh.elim
            | 8, hh => exact hh.elim
            | 9, hh => exact hh.elim
            | 10, hh => exact hh.elim
            | 11, hh => exact hh.elim
            | 12, hh => exact hh.elim
            | m + 13, hh => exact hh.elim
          · match k, hh with
            | 0, hh => exact hh.elim
            | 1, hh => exact hh.elim
            | 2, hh => exact hh.elim
            | 3, hh => exact hh.elim
            | 4, hh => exact hh.elim
            | 5, hh => exact hh.elim
            | 6, hh => exact hh.elim
            | 7, hh => exact hh.elim
            | 8, hh => exact hh.elim
            | 9, hh => exact hh.elim
            | 10, hh => exact hh.elim
            | 11, hh => exact hh.elim
            | 12, hh => exact hh.elim
            | m + 13, hh => exact hh.elim
          · match k, h1 with
            | 0, hh => exact hh.elim
            | 1, hh => exact hh.elim
            | 2, hh => exact hh.elim
            | 3, hh => exact hh.elim
            | 4, hh => exact hh.elim
            | 5, hh => exact hh.elim
            | 6, hh => exact hh.elim
            | 7, hh => exact hh.elim
            | 8, hh => exact hh.elim
            | 9, hh => exact hh.elim
            | 10, hh => exact hh.elim
            | 11, hh => exact hh.elim
            | 12, hh => exact hh.elim
            | m + 13, hh => exact hh.elim
        · refine ⟨?_, ?_, ?_, ?_, ?_, ?_, ?_, ?_, ?_, ?_, ?_, ?_, ?_, trivial⟩
          · refine Ord.owes_plain rfl fun ρ Os wo hs' hb hc' => ?_
            have h0 : ρ (.tmp 0) = .pointer (some ⟨bt, 0, none⟩) := hs'.old' 0 (by kernel_rfl)
            exact Any.ok_move (Ord.post_val rfl h0)
          · refine Ord.owes_plain rfl fun ρ Os wo hs' hb hc' => ?_
            have h19 : ρ (.tmp 19) = .pointer (some ⟨bt, 0, none⟩) := hs'.val' 19 0 (by kernel_rfl) rfl
            go_simp
            exact Ord.post_val rfl rfl
          · refine Ord.owes_plain rfl fun ρ Os wo hs' hb hc' => ?_
            have h20 : ρ (.tmp 20) = .pointer (some ⟨bt, 0, none⟩) := hs'.val' 20 1 (by kernel_rfl) rfl
            go_simp
            exact Ord.post_val rfl rfl
          · refine Ord.owes_plain rfl fun ρ Os wo hs' hb hc' => ?_
            have h21 : ρ (.tmp 21) = .pointer (some ⟨bt, 0, none⟩) := hs'.val' 21 2 (by kernel_rfl) rfl
            have c0 := (HTC.out wo (hb.undrew.below (Nat.le_refl _) (fun _ _ h => h)))
            go_simp
            exact Ord.post_val rfl rfl
          · refine Ord.owes_plain rfl fun ρ Os wo hs' hb hc' => ?_
            have h7 : ρ (.tmp 7) = .pointer (some ⟨bx, 0, none⟩) := hs'.old' 7 (by kernel_rfl)
            go_simp
            exact Ord.post_val rfl rfl
          · refine Ord.owes_plain rfl fun ρ Os wo hs' hb hc' => ?_
            have h23 : ρ (.tmp 23) = .pointer (some ⟨bx, 0, none⟩) := hs'.val' 23 4 (by kernel_rfl) rfl
            have c0 := (HKC.out wo (hb.undrew.below (Nat.le_refl _) (fun _ _ h => h)))
            go_simp
            exact Ord.post_val rfl rfl
          · refine Ord.owes_plain rfl fun ρ Os wo hs' hb hc' => ?_
            have h22 : ρ (.tmp 22) = .map (some bm) := hs'.val' 22 3 (by kernel_rfl) rfl
            have h24 : ρ (.tmp 24) = .string xn := hs'.val' 24 5 (by kernel_rfl) rfl
            refine Mp.ok_lookup Tryz.underlying169 Tryz.underlying9 (zeroGd _) (h22.trans rfl) (h24.trans rfl) (HMP.out wo (hb.undrew.below (Nat.le_refl _) (fun _ _ h => h))) ?_
            rw [HGT.out]
            exact Ord.post_val rfl rfl
          · refine Ord.owes_plain rfl fun ρ Os wo hs' hb hc' => ?_
            have h25 : ρ (.tmp 25) = .tuple #[.agg #[.string gn, .int .i64 (d : Int), .int .i64 gw, .int .i64 gv], .bool true] := hs'.val' 25 6 (by kernel_rfl) rfl
            exact Any.ok_move (Ord.post_val rfl h25)
          · refine Ord.owes_plain rfl fun ρ Os wo hs' hb hc' => ?_
            have h18 : ρ (.tmp 18) = .tuple #[.agg #[.string gn, .int .i64 (d : Int), .int .i64 gw, .int .i64 gv], .bool true] := hs'.val' 18 7 (by kernel_rfl) rfl
            go_simp
            exact Ord.post_val rfl rfl
          · refine Ord.owes_plain rfl fun ρ Os wo hs' hb hc' => ?_
            have h18 : ρ (.tmp 18) = .tuple #[.agg #[.string gn, .int .i64 (d : Int), .int .i64 gw, .int .i64 gv], .bool true] := hs'.val' 18 7 (by kernel_rfl) rfl
            go_simp
            exact Ord.post_val rfl rfl
          · refine Ord.owes_plain rfl fun ρ Os wo hs' hb hc' => ?_
            go_simp
            exact Ord.post_box rfl
          · refine Ord.owes_plain rfl fun ρ Os wo hs' hb hc' => ?_
            have h26 : ρ (.tmp 26) = .agg #[.string gn, .int .i64 (d : Int), .int .i64 gw, .int .i64 gv] := hs'.val' 26 8 (by kernel_rfl) rfl
            exact Ord.ok_filled (hs'.new' 8 10 (by kernel_rfl)) h26 (by kernel_rfl) rfl (by simp [Value.oneCell']) rfl
          · refine Ord.owes_plain rfl fun ρ Os wo hs' hb hc' => ?_
            have h27 : ρ (.tmp 27) = .bool true := hs'.val' 27 9 (by kernel_rfl) rfl
            exact Any.ok_assign (Ord.post_val rfl h27)
        · intro vals Os ρs w4 hk hkn hln hap hbd
          obtain ⟨bg, hp8, hbg, -⟩ := hkn 11 (by kernel_rfl)
          have h10 : vals 10 = .pointer (some ⟨bg, 0, none⟩) := (hln 11 8 10 (by kernel_rfl)).symm.trans hp8
          have h12 : vals 12 = .bool true := (hkn 12 (by kernel_rfl)).1
          have hbb : Below w3.heap.size w3 w4 := hk.below (Nat.le_refl _) (fun _ _ h => h)
          have HG4 := Lib.hid hbg
          have HB4 := Lib.hid (HB3.out.trans (hbb.mono HB3.out.size))
          have HCB := Lib.hid (HCB.out.below hbb HLT3.out)
          have HLT4 := Lib.hid (Nat.lt_of_lt_of_le HLT3.out hbb.size)
          clear hk hkn hln hap hbd hp8 hbg hbb
          simp only [Any.putAll]
          go_frame
          simp only [Nat.zero_add, Nat.reduceAdd]
          rw [h10, h12]
          clear h10 h12
          have HG5 := Lib.hid (cell_blk HG4.out 1)
          have x1 : w4.cell? ⟨bg, 1, none⟩ = some (.int .i64 (d : Int)) := HG5.out
          have y1 : w4.cell? ⟨ba, d, none⟩ = some (.bool (hasC t (l.take k) d)) := HCB.out.cell hd10
          have z1 := HCB.out.free d
          have HS5 := Lib.hid (HCB.out.set hd10)
          go_wp2_with fail
          go_roundw
          case rel => exact ⟨k + 1, by omega, by go_num, HS5.out.same (fun c hc => by rw [HNX.out]), HB4.out.setCell (by show w.heap.size ≤ ba; have := HBA.out; omega) _, by simpa [World.setCell] using HLT4.out⟩
          case measure => (simp [intOf]) <;> omega
    · have hkl : k = l.length := by omega
      have HCL : Hid (CB wr ba fun c => hasC t l c) := Lib.hid (hcb.same (fun c _ => by rw [hkl, List.take_length]))
      have HLB := Lib.hid hlb
      clear hcb hbel hlb hkl hk
      go_wp2_with fail
      generalize wr = w5 at *
      go_loopw [10, 11, 33] (fun o _ i wr => ∃ k : Nat, k ≤ 10 ∧ i = .int .i64 k ∧ wr.ownsRow w5.heap.size 3 1 o (clsN t l k).length (inCells (clsN t l k)) ∧ CB wr ba (fun c => hasC t l c) ∧ Below w.heap.size w wr ∧ w5.heap.size ≤ wr.heap.size) (fun _ _ i _ => 10 - (intOf i).toNat)
      case atStart => exact ⟨0, by omega, rfl, World.ownsRow_nil _ _ _ _, HCL.out, HBEL.out, Nat.le_refl _⟩
      case round =>
        obtain ⟨k, hk, rfl, hown, hcb, hbel, hwc⟩ := hrel
        have HOWN := Lib.hid hown
        have HBC := Lib.hid hbel
        have HCC := Lib.hid hcb
        by_cases hlt : k < 10
        · have tk : ((k : Nat) : Int) < 10 := by omega
          have y1 : wr.cell? ⟨ba, k, none⟩ = some (.bool (hasC t l k)) := hcb.cell hlt
          have HN := Lib.hid (clsN_succ t l k)
          have HL : Hid ((clsN t l k).length + 1 ≤ maxLen ∧ ((clsN t l k).length + 1) * 8 ≤ 140737488355328 ∧ w5.heap.size ≤ wr.heap.size) := Lib.hid (by have h1 := clsN_len t l k; simp only [maxLen]; omega)
          clear hown hcb hbel hwc
          cases hc : hasC t l k
          · rw [hc] at y1 HN
            clear hc
            go_wp2_with fail
            go_roundw
            case rel => exact ⟨k + 1, by omega, by go_num, by rw [HN.out]; simpa using HOWN.out, HCC.out, HBC.out, HL.out.2.2⟩
            case measure => (simp [intOf]) <;> omega
          · rw [hc] at y1 HN
            clear hc
            go_wp2_with (first
              | ((with_reducible refine Any.wpl_push ?_ ?_ ?_ Tryz.underlying179 HI.out.1 HI.out.2.1 HI.out.2.2.1 HI.out.2.2.2 ?_ (by decide) ?_ (int_one (k : Int)) (HOWN.out) HL.out.1 HL.out.2.1 HL.out.2.2 ?_); rfl; rfl; rfl; rfl; rfl; intro v3 w3 hown3 hgrow3 hwho3)
              | fail)
            have HB3 := Lib.hid (HBC.out.grown hgrow3 HBC.out.size (fun b hb => Nat.le_trans HBEL.out.size (HOWN.out.lt b hb).1))
            have HC3 : Hid (CB w3 ba fun c => hasC t l c) := Lib.hid (by
              obtain ⟨cs, h1, h2⟩ := HCC.out
              exact ⟨cs, (hgrow3.block ba (lt_blk h1) (fun e => by have h3 := (HOWN.out.lt ba e.symm).1; have := HLB.out; omega)).trans h1, h2⟩)
            have HS3 := Lib.hid (Nat.le_trans HL.out.2.2 hgrow3.size)
            have HO3 := Lib.hid hown3
            clear hown3 hgrow3 hwho3
            go_roundw
            case rel => exact ⟨k + 1, by omega, by go_num, by rw [HN.out, if_pos rfl, List.length_append]; simpa [inCells] using HO3.out, HC3.out, HB3.out, HS3.out⟩
            case measure => (simp [intOf]) <;> omega
        · obtain rfl : k = 10 := by omega
          clear hown hcb hbel hwc
          go_wp2_with fail
          go_ret
          exact retRow HOWN.out HBEL.out.size HBC.out
end Go.Proofs.YtbigoifpfkdkjaaGreatDoor.Sc
namespace Go.Proofs.YtbigoifpfkdkjaaGreatDoor.Sc
open Go Go.RowKit Go.ChangeShapes Go.WideShapes Go.ChangeAt
set_option maxRecDepth 100000

/-- Do two of rest, or one of rest and one of seen, lie apart? -/
def apL : List Int → List Int → Bool
  | _, [] => false
  | seen, a :: r => seen.any (apartM a) || apL (seen ++ [a]) r
theorem apL_next {l : List Int} {k : Nat} (h : k < l.length) : apL (l.take k) (l.drop k) = ((l.take k).any (apartM l[k]) || apL (l.take (k + 1)) (l.drop (k + 1))) := by
  rw [List.drop_eq_getElem_cons h, apL, List.take_succ_eq_append_getElem h]
def togC (t : List Gd) (l : List Lt) : Int := if lotsC t l = 0 then (if apL [] (clsN t l 10) = true then 12 else 0) else lotsC t l
theorem inCells_flat (l : List Int) : inCells l = (l.map inRow).flatten := by
  induction l with
  | nil => rfl
  | cons a r ih => simp only [inCells, List.map_cons, List.flatten_cons, inRow, List.singleton_append] at *; rw [ih]
theorem own_ints {w : World} {B n : Nat} {v : Value} {l : List Int} (h : w.ownsRow B 3 1 v n (inCells l)) (hn : n = l.length) : Sl w 1 v (l.map inRow) := by
  rw [inCells_flat] at h
  exact own_sl h (by simpa using hn) (by
    intro r hr
    obtain ⟨d, _, rfl⟩ := List.mem_map.1 hr
    rfl)
theorem any_dropI {l : List Int} {k : Nat} (h : k < l.length) (f : Int → Bool) : (l.drop k).any f = (f l[k] || (l.drop (k + 1)).any f) := by rw [List.drop_eq_getElem_cons h, List.any_cons]
set_option maxHeartbeats 8000000 in
theorem together_any (t : List Gd) (l : List Lt) (bt bm : Nat) (v : Value) (w : World) (hap : ApT w) (hs : Sl w 2 v (l.map Lt.row)) (htab : Tab w bt bm t) (hn : (codes t).Nodup) (hok : ∀ g ∈ t, gdOk g = true) :
    Calls Tryz.prog 34 #[.pointer (some ⟨bt, 0, none⟩), v] w (Ret w (.int .i64 (togC t l))) := by
  have HKN := Lib.hid (known_any t l bt bm v w hs htab hn)
  have HCL := Lib.hid (fun W (hW : Below w.heap.size w W) => classes_any t l bt bm v W (hs.below hW (Nat.le_refl _)) (htab.below hW) hn hok)
  have HAP := Lib.hid (fun a b W (hW : Below w.heap.size w W) => apart_any a b W (hap.below hW))
  have HLEN := Lib.hid (clsN_len t l 10)
  clear hs htab hn hok hap
  by_cases h0 : lotsC t l = 0
  rotate_left
  · obtain ⟨e, he⟩ : ∃ e, e = lotsC t l := ⟨_, rfl⟩
    have HQ : Hid (togC t l = e) := Lib.hid (by rw [togC, if_neg h0, he])
    rw [← he] at HKN h0
    have te : (e != 0) = true := by simp [h0]
    clear h0 he
    go_enter Tryz.func34, Tryz.ntmps34
    go_wp2_with (first
      | ((with_reducible refine HKN.out.mono ?_); rintro e' w2 ⟨rfl, hb2⟩; have HB := Lib.hid hb2; clear hb2)
      | fail)
    go_ret
    exact ⟨by rw [HQ.out]; rfl, HB.out⟩
  have HV : Hid (togC t l = if apL [] (clsN t l 10) = true then 12 else 0) := Lib.hid (by rw [togC, if_pos h0])
  rw [h0] at HKN
  clear h0
  generalize clsN t l 10 = L at *
  go_enter Tryz.func34, Tryz.ntmps34
  go_wp2_with (first
    | ((with_reducible refine HKN.out.mono ?_); rintro e' w2 ⟨rfl, hb2⟩; have HB := Lib.hid hb2; clear hb2)
    | ((with_reducible refine (HCL.out _ HB.out).mono ?_); rintro e' w3 ⟨v3, rfl, ho3, hb3⟩; have HS3 := Lib.hid (own_ints ho3 rfl); obtain ⟨a3, c3, rfl⟩ : ∃ a c, v3 = .slice a L.length c := (by simpa using HS3.out.shape); have HB3 := Lib.hid (HB.out.trans (hb3.mono HB.out.size)); clear ho3 hb3)
    | fail)
  have hl10 := HLEN.out
  have HBW : Hid (Below w3.heap.size w3 w3) := Lib.hid (Below.refl _ _)
  go_loopw [7, 8, 10, 22, 29, 30, 31] (fun _ _ _ i _ _ _ wr => ∃ k : Nat, k ≤ L.length ∧ i = .int .i64 k ∧ apL [] L = apL (L.take k) (L.drop k) ∧ Below w3.heap.size w3 wr) (fun _ _ _ i _ _ _ _ => L.length - (intOf i).toNat)
  case atStart => exact ⟨0, Nat.zero_le _, rfl, rfl, HBW.out⟩
  case round =>
    obtain ⟨k, hk, rfl, hrel, hbel⟩ := hrel
    have HBEL := Lib.hid hbel
    by_cases hlt : k < L.length
    · obtain ⟨b, off, rfl, -, hb, hc⟩ := HS3.out.at (i := k) (by simpa using hlt)
      have hcell : ∀ j, (hj : j < L.length) → w3.cell? ⟨b, off + j, none⟩ = some (.int .i64 L[j]) := fun j hj => by
        have := hc j (inRow L[j]) (by simp [hj]) 0 _ rfl
        rwa [Nat.mul_one] at this
      have d0 := (hbel.cell (p := ⟨b, off + k, none⟩) hb).trans (hcell k hlt)
      have HCE := Lib.hid (fun W (hW : Below w3.heap.size w3 W) j (hj : j < L.length) => (hW.cell (p := ⟨b, off + j, none⟩) hb).trans (hcell j hj))
      rw [apL_next hlt] at hrel
      have HR := Lib.hid hrel
      have HK := Lib.hid hlt
      obtain ⟨i0, hi, -⟩ := info_parts infoIntC
      have hcap : k ≤ c3 := (Sl.take (m := k) HS3.out (by simpa using hk)).1
      have q1 : ∀ w, (Instr.slice 179 (.slice (some ⟨b, off, none⟩) L.length c3) none (some (.int .i64 (k : Int))) none).run Tryz.prog w = .ok (.slice (some ⟨b, off, none⟩) k c3) w := fun w => Any.run_slice_to Tryz.underlying179 hi _ _ c3 k hcap
      have tk : ((k : Nat) : Int) < (L.length : Int) := by omega
      generalize L[k] = x at *
      clear hc hcell hbel hrel hcap hi
      go_wp2_with fail
      generalize wr = w5 at *
      go_loopw [10, 31] (fun _ i wr => ∃ m : Nat, m ≤ k ∧ i = .int .i64 m ∧ (L.take k).any (apartM x) = ((L.take k).drop m).any (apartM x) ∧ Below w3.heap.size w3 wr) (fun _ i _ => k - (intOf i).toNat)
      case atStart => exact ⟨0, Nat.zero_le _, rfl, rfl, HBEL.out⟩
      case round =>
        obtain ⟨m, hm, rfl, hrel, hbel⟩ := hrel
        have HBM := Lib.hid hbel
        by_cases hlm : m < k
        · have hml : m < (L.take k).length := by rw [List.length_take]; omega
          rw [any_dropI hml] at hrel
          have hmL : m < L.length := by omega
          have e0 := HCE.out wr hbel m hmL
          have he : (L.take k)[m] = L[m] := List.getElem_take
          rw [he] at hrel
          generalize L[m] = y at *
          have HP := Lib.hid (fun W (hW : Below w3.heap.size w3 W) => HAP.out x y W (HB3.out.trans (hW.mono HB3.out.size)))
          have tm : ((m : Nat) : Int) < (k : Int) := by omega
          clear he hml hbel
          cases ha : apartM x y
          · rw [ha] at HP hrel
            have HRR := Lib.hid hrel
            clear ha hrel
            go_wp2_with (first
              | ((with_reducible refine (HP.out _ HBM.out).mono ?_); rintro e' w6 ⟨rfl, hb6⟩; have HB6 := Lib.hid (HBM.out.trans (hb6.mono HBM.out.size)); clear hb6)
              | fail)
            go_roundw
            case rel => exact ⟨m + 1, by omega, by go_num, by rw [HRR.out]; rfl, HB6.out⟩
            case measure => (simp [intOf]) <;> omega
          · rw [ha] at HP hrel
            have HQ : Hid (togC t l = 12) := Lib.hid (by rw [HV.out, if_pos]; rw [HR.out, hrel]; rfl)
            clear ha hrel
            go_wp2_with (first
              | ((with_reducible refine (HP.out _ HBM.out).mono ?_); rintro e' w6 ⟨rfl, hb6⟩; have HB6 := Lib.hid (HBM.out.trans (hb6.mono HBM.out.size)); clear hb6)
              | fail)
            go_ret
            exact ⟨by rw [HQ.out]; rfl, HB3.out.trans (HB6.out.mono HB3.out.size)⟩
        · have HRR : Hid (apL [] L = apL (L.take (k + 1)) (L.drop (k + 1))) := Lib.hid (by
            rw [HR.out, hrel, List.drop_of_length_le (by rw [List.length_take]; omega)]; rfl)
          clear hrel hbel
          go_wp2_with fail
          go_roundw
          case rel => exact ⟨k + 1, by have := HK.out; omega, by go_num, HRR.out, HBM.out⟩
          case measure => have := HK.out; (simp [intOf]) <;> omega
    · have HQ : Hid (togC t l = 0) := Lib.hid (by
        rw [HV.out, if_neg]
        rw [hrel, List.drop_of_length_le (by omega)]
        exact Bool.false_ne_true)
      clear hrel hbel
      go_wp2_with fail
      go_ret
      exact ⟨by rw [HQ.out]; rfl, HB3.out.trans (HBEL.out.mono HB3.out.size)⟩
end Go.Proofs.YtbigoifpfkdkjaaGreatDoor.Sc
namespace Go.Proofs.YtbigoifpfkdkjaaGreatDoor.Sc
open Go Go.RowKit Go.ChangeShapes Go.WideShapes Go.ChangeAt
set_option maxRecDepth 100000

def apInner : List Obj := apPairs.map fun p => .cells #[.int .i64 p.1, .int .i64 p.2] 3 (0, 0)
def apOuter (B : Nat) : Obj := .cells ((List.range 17).map fun j => Value.slice (some ⟨B + j, 0, none⟩) 2 2).toArray 179 (0, 0)
/-- The rows as the call lays them. -/
def ApRows (B : Nat) (w : World) : Prop := ∀ (k : Nat) (p : Int × Int), apPairs[k]? = some p → w.cell? ⟨B + 17, k, none⟩ = some (.slice (some ⟨B + k, 0, none⟩) 2 2) ∧ w.cell? ⟨B + k, 0, none⟩ = some (.int .i64 p.1) ∧ w.cell? ⟨B + k, 1, none⟩ = some (.int .i64 p.2)
theorem apRows_laid (w : World) : ApRows w.heap.size ((apInner ++ [apOuter w.heap.size]).foldl World.alloc w) := by
  intro k p hp
  have hk : k < 17 := by have := (List.getElem?_eq_some_iff.1 hp).1; simpa [apPairs] using this
  have hi : (apInner ++ [apOuter w.heap.size])[k]? = some (.cells #[.int .i64 p.1, .int .i64 p.2] 3 (0, 0)) := by
    rw [List.getElem?_append_left (by simpa [apInner, apPairs] using hk), apInner, List.getElem?_map, hp]; rfl
  have ho : (apInner ++ [apOuter w.heap.size])[17]? = some (apOuter w.heap.size) := by
    rw [List.getElem?_append_right (by simp [apInner, apPairs])]; simp [apInner, apPairs]
  have h1 := alloc_fold _ w k _ hi
  have h2 := alloc_fold _ w 17 _ ho
  refine ⟨?_, cell_blk h1 0, cell_blk h1 1⟩
  have := cell_blk h2 k
  rw [this]
  simp [hk]
end Go.Proofs.YtbigoifpfkdkjaaGreatDoor.Sc
namespace Go.Proofs.YtbigoifpfkdkjaaGreatDoor.Sc
open Go Go.RowKit Go.ChangeShapes Go.WideShapes Go.ChangeAt
set_option maxRecDepth 100000

theorem apart_same (a : Int) : apartM a a = false := by
  cases h : apartM a a with
  | false => rfl
  | true => exact absurd rfl (apart_range h).2.2
theorem apL_iff : ∀ (L seen : List Int), apL seen L = true ↔ ∃ a ∈ L, (∃ b ∈ seen, apartM a b = true) ∨ ∃ b ∈ L, apartM a b = true
  | [], seen => by simp [apL]
  | a :: r, seen => by
    rw [apL, Bool.or_eq_true, apL_iff r (seen ++ [a]), List.any_eq_true]
    constructor
    · rintro (h | ⟨x, hx, ⟨b, hb, h⟩ | ⟨b, hb, h⟩⟩)
      · exact ⟨a, List.mem_cons_self, .inl h⟩
      · rcases List.mem_append.1 hb with h1 | h1
        · exact ⟨x, List.mem_cons_of_mem _ hx, .inl ⟨b, h1, h⟩⟩
        · obtain rfl := List.mem_singleton.1 h1
          exact ⟨x, List.mem_cons_of_mem _ hx, .inr ⟨b, List.mem_cons_self, h⟩⟩
      · exact ⟨x, List.mem_cons_of_mem _ hx, .inr ⟨b, List.mem_cons_of_mem _ hb, h⟩⟩
    · rintro ⟨x, hx, ⟨b, hb, h⟩ | ⟨b, hb, h⟩⟩
      · rcases List.mem_cons.1 hx with rfl | hx'
        · exact .inl ⟨b, hb, h⟩
        · exact .inr ⟨x, hx', .inl ⟨b, List.mem_append_left _ hb, h⟩⟩
      · rcases List.mem_cons.1 hx with e1 | hx'
        · rcases List.mem_cons.1 hb with e2 | hb'
          · rw [e1, e2, apart_same] at h; cases h
          · rw [apart_comm] at h
            exact .inr ⟨b, hb', .inl ⟨x, by rw [e1]; simp, h⟩⟩
        · rcases List.mem_cons.1 hb with e2 | hb'
          · exact .inr ⟨x, hx', .inl ⟨b, by rw [e2]; simp, h⟩⟩
          · exact .inr ⟨x, hx', .inr ⟨b, hb', h⟩⟩
def clsOf (t : List Gd) (x : Lt) : Int := match gOf t x.good with
  | some g => g.cls
  | none => -1
theorem cls_mem {t : List Gd} {l : List Lt} (h : ∀ x ∈ l, lotOk x = true ∧ ∃ g, gOf t x.good = some g) (hok : ∀ g ∈ t, gdOk g = true) (a : Int) : a ∈ l.map (clsOf t) ↔ a ∈ clsN t l 10 := by
  unfold clsN
  rw [List.mem_map, List.mem_map]
  constructor
  · rintro ⟨x, hx, rfl⟩
    obtain ⟨g, hg⟩ := (h x hx).2
    have h1 := gd_range (hok g (gOf_mem hg).1)
    refine ⟨g.cls.toNat, List.mem_filter.2 ⟨List.mem_range.2 (by omega), ?_⟩, ?_⟩
    · refine List.any_eq_true.2 ⟨x, hx, ?_⟩
      unfold isC
      rw [hg]
      exact decide_eq_true (by omega)
    · rw [clsOf, hg]
      show ((g.cls.toNat : Nat) : Int) = g.cls
      omega
  · rintro ⟨n, hn, rfl⟩
    obtain ⟨x, hx, h1⟩ := List.any_eq_true.1 (List.mem_filter.1 hn).2
    refine ⟨x, hx, ?_⟩
    unfold isC at h1
    obtain ⟨g, hg⟩ := (h x hx).2
    rw [hg] at h1
    rw [clsOf, hg]
    exact of_decide_eq_true h1
theorem apL_lots {t : List Gd} {l : List Lt} (h : ∀ x ∈ l, lotOk x = true ∧ ∃ g, gOf t x.good = some g) (hok : ∀ g ∈ t, gdOk g = true) : apL [] (l.map (clsOf t)) = apL [] (clsN t l 10) := by
  rw [Bool.eq_iff_iff, apL_iff, apL_iff]
  simp only [cls_mem h hok]
end Go.Proofs.YtbigoifpfkdkjaaGreatDoor.Sc
namespace Go.Proofs.YtbigoifpfkdkjaaGreatDoor.Sc
open Go Go.RowKit
set_option maxRecDepth 100000

def AllIn (t : List Gd) (l : List Lt) : Prop := ∀ x ∈ l, lotOk x = true ∧ ∃ g, gOf t x.good = some g
theorem lotsC_all {t : List Gd} {l : List Lt} (h : AllIn t l) : lotsC t l = 0 := by
  unfold lotsC
  rw [if_neg, if_neg]
  · intro e
    obtain ⟨x, hx, h1⟩ := List.any_eq_true.1 e
    obtain ⟨g, hg⟩ := (h x hx).2
    simp [noG, hg] at h1
  · intro e
    obtain ⟨x, hx, h1⟩ := List.any_eq_true.1 e
    simp [(h x hx).1] at h1
theorem sumV_in {t : List Gd} {f : Gd → Int} {l : List Lt} (h : AllIn t l) (hs : sumL t f l ≤ 1099511627776) : sumV t f l = .tuple #[.int .i64 (sumL t f l), .int .i64 0] := by
  rw [sumV, if_pos (lotsC_all h), if_neg (by omega)]
theorem sumV_fit {t : List Gd} {f : Gd → Int} {l : List Lt} {n : Int} (h : sumV t f l = .tuple #[.int .i64 n, .int .i64 0]) : AllIn t l ∧ sumL t f l ≤ 1099511627776 ∧ n = sumL t f l := by
  unfold sumV at h
  split at h
  · rename_i h0
    split at h
    · simp at h
    · simp at h
      exact ⟨lotsC_ok h0, by omega, h.symm⟩
  · rename_i h0
    simp at h
    exact absurd h.2 h0
theorem sumV_none {t : List Gd} {f : Gd → Int} {l : List Lt} {n q : Int} (h : sumV t f l = .tuple #[.int .i64 n, .int .i64 q]) (hq : ¬ q = 0) : n = 0 := by
  unfold sumV at h
  split at h
  · split at h
    · simp at h; exact h.1.symm
    · simp at h; exact absurd h.2.symm hq
  · simp at h; exact h.1.symm
theorem sumL_jIns (t : List Gd) (f : Gd → Int) (L : List Lt) (x : Lt) : sumL t f (jIns L x) = sumL t f L + tmL t f x := by
  induction L with
  | nil => simp [jIns, sumL]
  | cons y r ih =>
    unfold jIns
    split
    · simp only [sumL, ih]; omega
    · split
      · rename_i h
        simp only [sumL]
        have : tmL t f ⟨y.good, y.cnt + x.cnt⟩ = tmL t f y + tmL t f x := by
          unfold tmL
          simp only [← h]
          cases gOf t y.good with
          | none => rfl
          | some g => exact Int.add_mul _ _ _
        omega
      · simp only [sumL]; omega
theorem sumL_joinL (t : List Gd) (f : Gd → Int) (l : List Lt) (h : ∀ x ∈ l, ¬ x.cnt < 1) : sumL t f (joinL l) = sumL t f l := by
  have : ∀ (l out : List Lt), (∀ x ∈ l, ¬ x.cnt < 1) → sumL t f (l.foldl (fun out x => if x.cnt < 1 then out else jIns out x) out) = sumL t f out + sumL t f l := by
    intro l
    induction l with
    | nil => intro out _; simp [sumL]
    | cons x r ih =>
      intro out h
      rw [List.foldl_cons, if_neg (h x List.mem_cons_self), ih _ (fun y hy => h y (List.mem_cons_of_mem _ hy)), sumL_jIns, sumL]
      omega
  rw [joinL, this l [] h]
  simp [sumL]
theorem joinL_good {l : List Lt} {x : Lt} (hx : x ∈ joinL l) : ∃ y ∈ l, y.good = x.good := by
  have h1 := posTot_of (joinL_norm l) hx
  have h2 := (joinL_norm l).pos x hx
  rw [joinL_tot] at h1
  obtain ⟨y, hy, e, -⟩ := posTot_pos.1 (show 0 < posTot l x.good by omega)
  exact ⟨y, hy, e⟩
theorem sumV_join {t : List Gd} {f : Gd → Int} {l : List Lt} (h : AllIn t l) (hs : sumL t f l ≤ 1099511627776) :
    sumV t f (joinL l) = .tuple #[.int .i64 (sumL t f l), .int .i64 0] ∨ sumV t f (joinL l) = .tuple #[.int .i64 0, .int .i64 1] := by
  have e := sumL_joinL t f l (fun x hx => by have := lot_range (h x hx).1; omega)
  rcases Decidable.em ((joinL l).any (fun x => !lotOk x) = true) with h1 | h1
  · right
    have : lotsC t (joinL l) = 1 := by rw [lotsC, if_pos h1]
    rw [sumV, if_neg (by rw [this]; decide), this]
  · left
    rw [← e] at hs ⊢
    refine sumV_in (fun x hx => ⟨?_, ?_⟩) hs
    · cases hk : lotOk x with
      | true => rfl
      | false => exact absurd (List.any_eq_true.2 ⟨x, hx, by simp [hk]⟩) h1
    · obtain ⟨y, hy, e1⟩ := joinL_good hx
      rw [← e1]
      exact (h y hy).2
theorem gOf_at {t : List Gd} (hn : (codes t).Nodup) {k : Nat} (hk : k < t.length) : gOf t t[k].code = some t[k] := by
  cases h : gOf t t[k].code with
  | none => exact absurd (List.mem_map.2 ⟨t[k], List.getElem_mem hk, rfl⟩) (gOf_none.1 h)
  | some g =>
    obtain ⟨h1, h2⟩ := gOf_mem h
    obtain ⟨j, hj, rfl⟩ := List.getElem_of_mem h1
    have h3 : (codes t)[j]'(by simpa [codes] using hj) = (codes t)[k]'(by simpa [codes] using hk) := by simpa [codes] using h2
    have hp := List.pairwise_iff_getElem.1 hn
    rcases Nat.lt_trichotomy j k with h4 | h4 | h4
    · exact absurd h3 (hp j k _ _ h4)
    · subst h4; rfl
    · exact absurd h3.symm (hp k j _ _ h4)
theorem more_in {t : List Gd} {l : List Lt} (h : AllIn t l) (hg : ∀ g ∈ t, gdOk g = true) (hn : (codes t).Nodup) {k : Nat} (hk : k < t.length) : AllIn t (l ++ [⟨t[k].code, 1⟩]) := by
  intro x hx
  rcases List.mem_append.1 hx with h1 | h1
  · exact h x h1
  · obtain rfl := List.mem_singleton.1 h1
    refine ⟨?_, _, gOf_at hn hk⟩
    have := hg _ (List.getElem_mem hk)
    simp only [gdOk, Bool.and_eq_true] at this
    simp only [lotOk, this.1, Bool.true_and]
    rfl
theorem sumV_more {t : List Gd} {l : List Lt} (h : AllIn t l) (hg : ∀ g ∈ t, gdOk g = true) (hn : (codes t).Nodup) {k : Nat} (hk : k < t.length) :
    sumV t Gd.wt (l ++ [⟨t[k].code, 1⟩]) = .tuple #[.int .i64 0, .int .i64 3] ∨ sumV t Gd.wt (l ++ [⟨t[k].code, 1⟩]) = .tuple #[.int .i64 (sumL t Gd.wt l + t[k].wt), .int .i64 0] := by
  have e : sumL t Gd.wt (l ++ [⟨t[k].code, 1⟩]) = sumL t Gd.wt l + t[k].wt := by
    rw [sumL_append]
    simp only [sumL, tmL, gOf_at hn hk]
    omega
  rw [sumV, if_pos (lotsC_all (more_in h hg hn hk)), e]
  split
  · exact .inl rfl
  · exact .inr rfl
theorem all_take {t : List Gd} {l : List Lt} (h : AllIn t l) (k : Nat) : AllIn t (l.take k) := fun x hx => h x (List.mem_of_mem_take hx)
theorem all_drop {t : List Gd} {l : List Lt} (h : AllIn t l) (k : Nat) : AllIn t (l.drop k) := fun x hx => h x (List.mem_of_mem_drop hx)
theorem sum_parts {t : List Gd} {l : List Lt} (h : AllIn t l) (hg : ∀ g ∈ t, gdOk g = true) (hs : sumL t Gd.wt l ≤ 1099511627776) (k : Nat) :
    sumV t Gd.wt (l.take k) = .tuple #[.int .i64 (sumL t Gd.wt (l.take k)), .int .i64 0] ∧ sumV t Gd.wt (l.drop k) = .tuple #[.int .i64 (sumL t Gd.wt (l.drop k)), .int .i64 0] ∧ sumL t Gd.wt (l.take k) + sumL t Gd.wt (l.drop k) = sumL t Gd.wt l := by
  have h1 := sumL_append t Gd.wt (l.take k) (l.drop k)
  rw [List.take_append_drop] at h1
  have h2 := sumL_nonneg h (sel_wt hg) k
  have h3 := sumL_nonneg (all_drop h k) (sel_wt hg) (l.drop k).length
  rw [List.take_length] at h3
  exact ⟨sumV_in (all_take h k) (by omega), sumV_in (all_drop h k) (by omega), h1.symm⟩
end Go.Proofs.YtbigoifpfkdkjaaGreatDoor.Sc
namespace Go.Proofs.YtbigoifpfkdkjaaGreatDoor.Sc
open Go Go.RowKit
set_option maxRecDepth 100000

theorem hasC_parts (t : List Gd) (l : List Lt) (k c : Nat) : hasC t l c = (hasC t (l.take k) c || hasC t (l.drop k) c) := by
  unfold hasC
  rw [← List.any_append, List.take_append_drop]
theorem clsN_mem {t : List Gd} {l : List Lt} {a : Int} : a ∈ clsN t l 10 ↔ ∃ c : Nat, c < 10 ∧ hasC t l c = true ∧ a = (c : Int) := by
  unfold clsN
  rw [List.mem_map]
  constructor
  · rintro ⟨n, hn, rfl⟩
    have := List.mem_filter.1 hn
    exact ⟨n, List.mem_range.1 this.1, this.2, rfl⟩
  · rintro ⟨n, h1, h2, rfl⟩
    exact ⟨n, List.mem_filter.2 ⟨List.mem_range.2 h1, h2⟩, rfl⟩
theorem cls_parts {t : List Gd} {l : List Lt} (k : Nat) {a : Int} : a ∈ clsN t l 10 ↔ a ∈ clsN t (l.take k) 10 ∨ a ∈ clsN t (l.drop k) 10 := by
  simp only [clsN_mem]
  constructor
  · rintro ⟨c, h1, h2, rfl⟩
    rw [hasC_parts t l k c, Bool.or_eq_true] at h2
    exact h2.imp (fun h => ⟨c, h1, h, rfl⟩) (fun h => ⟨c, h1, h, rfl⟩)
  · rintro (⟨c, h1, h2, rfl⟩ | ⟨c, h1, h2, rfl⟩)
    · exact ⟨c, h1, by rw [hasC_parts t l k c, h2]; rfl, rfl⟩
    · exact ⟨c, h1, by rw [hasC_parts t l k c, h2, Bool.or_true], rfl⟩
theorem clsN_up (t : List Gd) (l : List Lt) (n : Nat) : (clsN t l n).Pairwise (· < ·) := by
  unfold clsN
  rw [List.pairwise_map]
  exact (List.pairwise_lt_range.filter _).imp fun h => by omega
theorem lotsC_is (t : List Gd) (l : List Lt) : lotsC t l = 0 ∨ lotsC t l = 1 ∨ lotsC t l = 4 := by
  unfold lotsC
  split
  · exact .inr (.inl rfl)
  · split
    · exact .inr (.inr rfl)
    · exact .inl rfl
theorem tog_zero {t : List Gd} {l : List Lt} : togC t l = 0 ↔ AllIn t l ∧ apL [] (clsN t l 10) = false := by
  unfold togC
  constructor
  · intro h
    split at h
    · rename_i h0
      refine ⟨lotsC_ok h0, ?_⟩
      cases ha : apL [] (clsN t l 10) with
      | false => rfl
      | true => rw [if_pos ha] at h; cases h
    · rename_i h0
      exact absurd h h0
  · rintro ⟨h1, h2⟩
    rw [if_pos (lotsC_all h1), h2]
    rfl
theorem tog_in {t : List Gd} {l : List Lt} (h : togC t l = 0 ∨ togC t l = 12) : AllIn t l := by
  refine lotsC_ok ?_
  rcases Decidable.em (lotsC t l = 0) with h0 | h0
  · exact h0
  · rw [togC, if_neg h0] at h
    rcases lotsC_is t l with h1 | h1 | h1
    · exact h1
    · rw [h1] at h; omega
    · rw [h1] at h; omega
theorem tog_all {t : List Gd} {l : List Lt} (h : AllIn t l) : togC t l = 0 ∨ togC t l = 12 := by
  rw [togC, if_pos (lotsC_all h)]
  split
  · exact .inr rfl
  · exact .inl rfl
theorem ap_mono {L M : List Int} (h : ∀ a ∈ L, a ∈ M) (h1 : apL [] L = true) : apL [] M = true := by
  rw [apL_iff] at h1 ⊢
  obtain ⟨a, ha, ⟨b, hb, -⟩ | ⟨b, hb, e⟩⟩ := h1
  · cases hb
  · exact ⟨a, h a ha, .inr ⟨b, h b hb, e⟩⟩
theorem ap_take {t : List Gd} {l : List Lt} (k : Nat) (h : apL [] (clsN t (l.take k) 10) = true) : apL [] (clsN t l 10) = true := ap_mono (fun _ ha => (cls_parts k).2 (.inl ha)) h
theorem ap_drop {t : List Gd} {l : List Lt} (k : Nat) (h : apL [] (clsN t (l.drop k) 10) = true) : apL [] (clsN t l 10) = true := ap_mono (fun _ ha => (cls_parts k).2 (.inr ha)) h
/-- The first two tests. -/
theorem tog_one {t : List Gd} {l : List Lt} (k : Nat) (h : togC t l = 0) : togC t (l.take k) = 0 ∧ togC t (l.drop k) = 0 := by
  obtain ⟨h1, h2⟩ := tog_zero.1 h
  refine ⟨tog_zero.2 ⟨all_take h1 k, ?_⟩, tog_zero.2 ⟨all_drop h1 k, ?_⟩⟩
  · cases ha : apL [] (clsN t (l.take k) 10) with
    | false => rfl
    | true => rw [ap_take k ha] at h2; cases h2
  · cases ha : apL [] (clsN t (l.drop k) 10) with
    | false => rfl
    | true => rw [ap_drop k ha] at h2; cases h2
theorem tog_two {t : List Gd} {l : List Lt} (k : Nat) (h : togC t l = 12) : ¬ togC t (l.take k) = 1 ∧ ¬ togC t (l.drop k) = 1 := by
  have h1 := tog_in (.inr h)
  have h2 := tog_all (all_take h1 k)
  have h3 := tog_all (all_drop h1 k)
  omega
end Go.Proofs.YtbigoifpfkdkjaaGreatDoor.Sc
