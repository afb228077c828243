/- search.arrive, search.round. -/
import Derived.Test.YtbmjficiceiekaaDoorIter16
import Derived.Test.YtbmjficiceiekaaDoorSetB
import Derived.Laws.Rows
namespace Go.Proofs.YtbmjficiceiekaaDoor.Sc
open Go Go.RowKit Go.ChangeShapes Go.WideShapes Go.ChangeAt
set_option maxRecDepth 100000

def seaC (vv : Value) (fr : ByteArray) (ch : Int) : Array Value := #[vv, .string fr, .int .i64 ch]
/-- The call that a leg ends at. -/
def arrC (V : List Vm) (x : Lg) : Option Cl := (V[x.voy]?).bind fun v => v.calls[x.to]?
theorem arrRes : Tryd.f31.results = #[.cell 4 39] := by kernel_rfl
set_option maxHeartbeats 1000000 in
theorem arrive_any (V : List Vm) (vv : Value) (fr : ByteArray) (ch : Int) (x : Lg) (c : Cl) (w : World) (hs : VsAt w vv V) (hc : arrC V x = some c) :
    Calls Tryd.prog 31 #[.agg (seaC vv fr ch), .agg x.cells] w (Ret w (.agg c.cells)) := by
  obtain ⟨vo, lf, lt⟩ := x
  have hvl : vo < V.length := by
    rcases Nat.lt_or_ge vo V.length with h | h
    · exact h
    · rw [arrC, List.getElem?_eq_none h] at hc; cases hc
  rw [arrC, List.getElem?_eq_getElem hvl, Option.bind_some] at hc
  have hVL : V.length ≤ 9223372036854775807 := by have := hs.1.len_le; simp only [List.length_map, maxLen] at this; omega
  obtain ⟨av, cv, rfl⟩ : ∃ a c, vv = .slice a V.length c := by simpa using hs.1.shape
  obtain ⟨b, off, rfl, hb, e0, e1, hcs⟩ := vs_at hs hvl
  have hvi : (vo : Int) < (V.length : Int) := by omega
  generalize V[vo] = v at *
  obtain ⟨sh, cval, cs⟩ := v
  simp only at e0 e1 hcs hc
  obtain ⟨ac, cc, rfl⟩ : ∃ a c, cval = .slice a cs.length c := by simpa using hcs.shape
  obtain ⟨hlt, hcc⟩ := List.getElem?_eq_some_iff.1 hc
  obtain ⟨b', off', rfl, hb', hp⟩ := cl_at hcs (k := lt) hlt
  have hcl : cs.length ≤ 9223372036854775807 := by have := hcs.len_le; simp only [List.length_map, maxLen] at this; omega
  have hli : (lt : Int) < (cs.length : Int) := by have : lt < cs.length := hlt; omega
  rw [hcc] at hp
  obtain ⟨cp, cu, ca, cd⟩ := c
  simp only [Lg.cells, Cl.cells, seaC]
  clear hcc hcs hc
  generalize cs.length = n at *
  have HLW : Hid (b < w.heap.size ∧ b' < w.heap.size) := Lib.hid ⟨hb, hb'⟩
  obtain ⟨w0, hw0⟩ : ∃ w0, w0 = (((w.alloc (.cells #[.slice (some ⟨b, off, none⟩) V.length cv, .string fr, .int .i64 ch] 52)).alloc (.cells #[.int .i64 (vo : Int), .int .i64 (lf : Int), .int .i64 (lt : Int)] 37)).alloc (.cells #[.string ⟨#[]⟩, .int .i64 0, .int .i64 0, .int .i64 0] 39)) := ⟨_, rfl⟩
  have HBW : Hid (Below w.heap.size w w0) := Lib.hid (by
    rw [hw0]
    exact ((one_below w _).alloc (by simp) _).alloc (by simp; omega) _)
  have H0 : Hid (w0.heap[w.heap.size]? = some (.cells #[.slice (some ⟨b, off, none⟩) V.length cv, .string fr, .int .i64 ch] 52 (0, 0))) := Lib.hid (by
    rw [hw0]
    exact blk (one_below _ _) (by simp; omega) (blk (one_below _ _) (by simp) (heap_alloc_new w _)))
  have H1 : Hid (w0.heap[w.heap.size + 1]? = some (.cells #[.int .i64 (vo : Int), .int .i64 (lf : Int), .int .i64 (lt : Int)] 37 (0, 0))) := Lib.hid (by
    rw [hw0]
    refine blk (one_below _ _) (by simp) ?_
    have := heap_alloc_new (w.alloc (.cells #[.slice (some ⟨b, off, none⟩) V.length cv, .string fr, .int .i64 ch] 52)) (.cells #[.int .i64 (vo : Int), .int .i64 (lf : Int), .int .i64 (lt : Int)] 37)
    simpa using this)
  have H2 : Hid (w0.heap[w.heap.size + 2]? = some (.cells #[.string ⟨#[]⟩, .int .i64 0, .int .i64 0, .int .i64 0] 39 (0, 0))) := Lib.hid (by
    rw [hw0]
    have := heap_alloc_new ((w.alloc (.cells #[.slice (some ⟨b, off, none⟩) V.length cv, .string fr, .int .i64 ch] 52)).alloc (.cells #[.int .i64 (vo : Int), .int .i64 (lf : Int), .int .i64 (lt : Int)] 37)) (.cells #[.string ⟨#[]⟩, .int .i64 0, .int .i64 0, .int .i64 0] 39)
    simpa using this)
  have HE1 : Hid (w0.cell? ⟨b, off + vo * 2 + 1, none⟩ = some (.slice (some ⟨b', off', none⟩) n cc)) := Lib.hid ((HBW.out.cell (p := ⟨b, off + vo * 2 + 1, none⟩) hb).trans e1)
  have HCA : Hid (ClAt w0 b' (off' + lt * 4) ⟨cp, cu, ca, cd⟩) := Lib.hid (hp.below hb' HBW.out)
  have HLB : Hid (b < w0.heap.size) := Lib.hid (Nat.lt_of_lt_of_le hb HBW.out.size)
  have HLC : Hid (b' < w0.heap.size) := Lib.hid (Nat.lt_of_lt_of_le hb' HBW.out.size)
  clear hs e0 e1 hp hb hb'
  go_enter Tryd.func31, Tryd.ntmps31
  go_wp2_with fail
  rw [← hw0]
  clear hw0
  refine Ord.region_lit (fun
    | 0 => Ord.val (.pointer (some ⟨w.heap.size, 0, none⟩))
    | 1 => Ord.val (.slice (some ⟨b, off, none⟩) V.length cv)
    | 2 => Ord.val (.pointer (some ⟨w.heap.size + 1, 0, none⟩))
    | 3 => Ord.val (.int .i64 (vo : Int))
    | 4 => Ord.val (.pointer (some ⟨b, off + vo * 2, none⟩))
    | 5 => Ord.val (.pointer (some ⟨b, off + vo * 2 + 1, none⟩))
    | 6 => Ord.val (.slice (some ⟨b', off', none⟩) n cc)
    | 7 => Ord.val (.pointer (some ⟨w.heap.size + 1, 2, none⟩))
    | 8 => Ord.val (.int .i64 (lt : Int))
    | 9 => Ord.val (.pointer (some ⟨b', off' + lt * 4, none⟩))
    | 10 => Ord.val (.agg #[.string cp, .int .i64 cu, .int .i64 ca, .int .i64 cd])
    | 11 => Ord.setc (w.heap.size + 2) #[.string cp, .int .i64 cu, .int .i64 ca, .int .i64 cd] 39
    | _ => Ord.idle) (fun k => k = w.heap.size + 2) (by kernel_rfl) (by kernel_rfl) (by kernel_rfl) ?_ ?_ ?_ ?_
  · intro i _
    match i with
    | 0 => exact Ord.lasts_val _
    | 1 => exact Ord.lasts_val _
    | 2 => exact Ord.lasts_val _
    | 3 => exact Ord.lasts_val _
    | 4 => exact Ord.lasts_val _
    | 5 => exact Ord.lasts_val _
    | 6 => exact Ord.lasts_val _
    | 7 => exact Ord.lasts_val _
    | 8 => exact Ord.lasts_val _
    | 9 => exact Ord.lasts_val _
    | 10 => exact Ord.lasts_val _
    | 11 => exact Ord.lasts_setc _ _ _
    | n + 12 => exact Ord.lasts_idle
  · refine ⟨fun k b _ hh => ?_, fun k b _ hh => ?_, fun k k' b _ _ hne h1 h2 => ?_⟩
    · match k, hh with
      | 0, hh => exact hh.elim
      | 1, hh => exact hh.elim
      | 2, hh => exact hh.elim
      | 3, hh => exact hh.elim
      | 4, hh => exact hh.elim
      | 5, hh => exact hh.elim
      | 6, hh => exact hh.elim
      | 7, hh => exact hh.elim
      | 8, hh => exact hh.elim
      | 9, hh => exact hh.elim
      | 10, hh => exact hh.elim
      | 11, hh => exact hh
      | m + 12, hh => exact hh.elim
    · match k, hh with
      | 0, hh => exact hh.elim
      | 1, hh => exact hh.elim
      | 2, hh => exact hh.elim
      | 3, hh => exact hh.elim
      | 4, hh => exact hh.elim
      | 5, hh => exact hh.elim
      | 6, hh => exact hh.elim
      | 7, hh => exact hh.elim
      | 8, hh => exact hh.elim
      | 9, hh => exact hh.elim
      | 10, hh => exact hh.elim
      | 11, hh => exact hh ▸ lt_blk H2.out
      | m + 12, hh => exact hh.elim
    · have a : (k = 11 ∧ (fun k => k = w.heap.size + 2) b) := by
        match k, h1 with
        | 0, hh => exact hh.elim
        | 1, hh => exact hh.elim
        | 2, hh => exact hh.elim
        | 3, hh => exact hh.elim
        | 4, hh => exact hh.elim
        | 5, hh => exact hh.elim
        | 6, hh => exact hh.elim
        | 7, hh => exact hh.elim
        | 8, hh => exact hh.elim
        | 9, hh => exact hh.elim
        | 10, hh => exact hh.elim
        | 11, hh => exact ⟨rfl, hh⟩
        | m + 12, hh => exact hh.elim
      have a' : (k' = 11 ∧ (fun k => k = w.heap.size + 2) b) := by
        match k', h2 with
        | 0, hh => exact hh.elim
        | 1, hh => exact hh.elim
        | 2, hh => exact hh.elim
        | 3, hh => exact hh.elim
        | 4, hh => exact hh.elim
        | 5, hh => exact hh.elim
        | 6, hh => exact hh.elim
        | 7, hh => exact hh.elim
        | 8, hh => exact hh.elim
        | 9, hh => exact hh.elim
        | 10, hh => exact hh.elim
        | 11, hh => exact ⟨rfl, hh⟩
        | m + 12, hh => exact hh.elim
      rcases a with ⟨rfl, a⟩ <;> rcases a' with ⟨rfl, a'⟩
      all_goals first | exact absurd rfl hne | (exact hne rfl)
  · refine ⟨?_, ?_, ?_, ?_, ?_, ?_, ?_, ?_, ?_, ?_, ?_, ?_, trivial⟩
    · refine Ord.owes_plain rfl fun ρ Os wo hs' hb hc' => ?_
      have h2 : ρ (.tmp 2) = .pointer (some ⟨w.heap.size, 0, none⟩) := hs'.old' 2 (by kernel_rfl)
      go_simp
      exact Ord.post_val rfl rfl
    · refine Ord.owes_plain rfl fun ρ Os wo hs' hb hc' => ?_
      have h5 : ρ (.tmp 5) = .pointer (some ⟨w.heap.size, 0, none⟩) := hs'.val' 5 0 (by kernel_rfl) rfl
      have c0 : wo.cell? ⟨w.heap.size, 0, none⟩ = some (.slice (some ⟨b, off, none⟩) V.length cv) := (hb.undrew.cell (lt_blk H0.out) (by omega)).trans (cell_blk H0.out 0)
      go_simp
      exact Ord.post_val rfl rfl
    · refine Ord.owes_plain rfl fun ρ Os wo hs' hb hc' => ?_
      have h3 : ρ (.tmp 3) = .pointer (some ⟨w.heap.size + 1, 0, none⟩) := hs'.old' 3 (by kernel_rfl)
      go_simp
      exact Ord.post_val rfl rfl
    · refine Ord.owes_plain rfl fun ρ Os wo hs' hb hc' => ?_
      have h7 : ρ (.tmp 7) = .pointer (some ⟨w.heap.size + 1, 0, none⟩) := hs'.val' 7 2 (by kernel_rfl) rfl
      have c0 : wo.cell? ⟨w.heap.size + 1, 0, none⟩ = some (.int .i64 (vo : Int)) := (hb.undrew.cell (lt_blk H1.out) (by omega)).trans (cell_blk H1.out 0)
      go_simp
      exact Ord.post_val rfl rfl
    · refine Ord.owes_plain rfl fun ρ Os wo hs' hb hc' => ?_
      have h6 : ρ (.tmp 6) = .slice (some ⟨b, off, none⟩) V.length cv := hs'.val' 6 1 (by kernel_rfl) rfl
      have h8 : ρ (.tmp 8) = .int .i64 (vo : Int) := hs'.val' 8 3 (by kernel_rfl) rfl
      go_simp
      exact Ord.post_val rfl rfl
    · refine Ord.owes_plain rfl fun ρ Os wo hs' hb hc' => ?_
      have h9 : ρ (.tmp 9) = .pointer (some ⟨b, off + vo * 2, none⟩) := hs'.val' 9 4 (by kernel_rfl) rfl
      go_simp
      exact Ord.post_val rfl rfl
    · refine Ord.owes_plain rfl fun ρ Os wo hs' hb hc' => ?_
      have h10 : ρ (.tmp 10) = .pointer (some ⟨b, off + vo * 2 + 1, none⟩) := hs'.val' 10 5 (by kernel_rfl) rfl
      have c0 : wo.cell? ⟨b, off + vo * 2 + 1, none⟩ = some (.slice (some ⟨b', off', none⟩) n cc) := (hb.undrew.cell HLB.out (by have := HLW.out; omega)).trans HE1.out
      go_simp
      exact Ord.post_val rfl rfl
    · refine Ord.owes_plain rfl fun ρ Os wo hs' hb hc' => ?_
      have h3 : ρ (.tmp 3) = .pointer (some ⟨w.heap.size + 1, 0, none⟩) := hs'.old' 3 (by kernel_rfl)
      go_simp
      exact Ord.post_val rfl rfl
    · refine Ord.owes_plain rfl fun ρ Os wo hs' hb hc' => ?_
      have h12 : ρ (.tmp 12) = .pointer (some ⟨w.heap.size + 1, 2, none⟩) := hs'.val' 12 7 (by kernel_rfl) rfl
      have c0 : wo.cell? ⟨w.heap.size + 1, 2, none⟩ = some (.int .i64 (lt : Int)) := (hb.undrew.cell (lt_blk H1.out) (by omega)).trans (cell_blk H1.out 2)
      go_simp
      exact Ord.post_val rfl rfl
    · refine Ord.owes_plain rfl fun ρ Os wo hs' hb hc' => ?_
      have h11 : ρ (.tmp 11) = .slice (some ⟨b', off', none⟩) n cc := hs'.val' 11 6 (by kernel_rfl) rfl
      have h13 : ρ (.tmp 13) = .int .i64 (lt : Int) := hs'.val' 13 8 (by kernel_rfl) rfl
      go_simp
      exact Ord.post_val rfl rfl
    · refine Ord.owes_plain rfl fun ρ Os wo hs' hb hc' => ?_
      have h14 : ρ (.tmp 14) = .pointer (some ⟨b', off' + lt * 4, none⟩) := hs'.val' 14 9 (by kernel_rfl) rfl
      obtain ⟨c0, c1, c2, c3⟩ := HCA.out.keep HLC.out (by have := HLW.out; omega) hb.undrew
      simp only at c0 c1 c2 c3
      go_simp
      exact Ord.post_val rfl rfl
    · refine Ord.owes_plain rfl fun ρ Os wo hs' hb hc' => ?_
      have h4 : ρ (.tmp 4) = .pointer (some ⟨w.heap.size + 2, 0, none⟩) := hs'.old' 4 (by kernel_rfl)
      have h15 : ρ (.tmp 15) = .agg #[.string cp, .int .i64 cu, .int .i64 ca, .int .i64 cd] := hs'.val' 15 10 (by kernel_rfl) rfl
      exact Ord.ok_setb h4 h15 H2.out (hs'.here (w.heap.size + 2) rfl) (by kernel_rfl) rfl (by simp [Value.oneCell']) rfl
  · intro vals Os ρs wS hk hkn hln hap hbd
    have h11 := hkn 11 (by kernel_rfl)
    clear hkn hln hap hbd
    have HK := Lib.hid hk
    have HB := Lib.hid h11.1
    clear hk h11
    simp only [Any.putAll]
    go_frame
    go_wp2_with fail
    ((try simp only [Exit.inBlock, Exit.then]); refine bodyPost_ret (results_cell_row arrRes _ _ _ _ _ _ _ rfl HB.out Tryd.underlying39 rfl (by kernel_rfl)) rfl ?_)
    exact ⟨rfl, HK.out.behind HBW.out HBW.out.size (fun k hk e => by omega)⟩
/-- search.round hands back the iterator. -/
theorem round_any (vv : Value) (fr : ByteArray) (ch : Int) (bm : Nat) (w : World) : Calls Tryd.prog 46 #[.agg (seaC vv fr ch), .map (some bm)] w (fun e w' => e = .returned (.func (.func 54) #[] #[.pointer (some ⟨w.heap.size, 0, none⟩), .pointer (some ⟨w.heap.size + 1, 0, none⟩)]) ∧
    w' = (w.alloc (.cells #[vv, .string fr, .int .i64 ch] 52)).alloc (.cells #[.map (some bm)] 56)) := by
  simp only [seaC]
  go_enter Tryd.func46, Tryd.ntmps46
  go_wp2_with fail
  go_ret
  exact ⟨rfl, rfl⟩
end Go.Proofs.YtbmjficiceiekaaDoor.Sc
