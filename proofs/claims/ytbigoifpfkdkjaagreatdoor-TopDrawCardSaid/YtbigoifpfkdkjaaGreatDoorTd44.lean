/- The papers of a fixed deal: packing list, rules. -/
import Derived.Test.YtbigoifpfkdkjaaGreatDoorTd22
import Derived.Test.YtbigoifpfkdkjaaGreatDoorTd43
namespace Go.Proofs.YtbigoifpfkdkjaaGreatDoor.Sc
open Go Go.RowKit Go.ChangeShapes Go.WideShapes Go.ChangeAt
set_option maxRecDepth 100000

theorem infoStrO : ∃ i0, Tryz.prog.info? 9 = some i0 ∧ i0.zero = some (.string ⟨#[]⟩) ∧ i0.size = 1 ∧ i0.bytes = 16 := by
  obtain ⟨i0, hi, hz, hsz, hby⟩ := info_parts infoStr
  exact ⟨i0, hi, hz, hsz, hby⟩
set_option maxHeartbeats 1000000 in
theorem marks_none (w : World) : Calls Tryz.prog 99 #[.slice none 0 0] w (Ret w (.string ⟨#[]⟩)) := by
  obtain ⟨i0, hi, hz, hsz, hby⟩ := info_parts infoStr
  obtain ⟨w1, hmk, how1, hg1⟩ := run_make_own (P := Tryz.prog) (w := w) w.heap.size 55 9 i0 _ 1 Tryz.underlying55 hi hz hsz .i64 .i64 0 (by rw [hby]; omega) (by simp only [maxLen]; omega) (Nat.le_refl _)
  have HB1 := Lib.hid ((Below.refl w.heap.size w).grown hg1 (Nat.le_refl _) (fun b hb => by cases hb))
  have HJ := Lib.hid (fun W => Tryz.strings_Join_none (some ⟨w.heap.size, 0, none⟩) 0 ⟨#[44]⟩ W)
  simp only [Int.natCast_zero] at hmk
  clear hi hz hsz hby how1 hg1
  go_enter Tryz.func99, Tryz.ntmps99
  go_wp2_with (first
    | ((with_reducible refine (HJ.out _).mono ?_); rintro e w2 ⟨rfl, rfl⟩)
    | fail)
  clear hmk
  go_loopw [3, 5, 11] (fun a _ i wr => a = .slice (some ⟨w.heap.size, 0, none⟩) 0 0 ∧ i = .int .i64 0 ∧ Below w.heap.size w wr) (fun _ _ _ _ => 0)
  case atStart => exact ⟨rfl, rfl, HB1.out⟩
  case round =>
    obtain ⟨rfl, rfl, hbel⟩ := hrel
    have HBEL := Lib.hid hbel
    clear hbel
    go_wp2_with (first
      | ((with_reducible refine (HJ.out _).mono ?_); rintro e w2 ⟨rfl, rfl⟩)
      | fail)
    go_ret
    exact ⟨rfl, HBEL.out⟩
theorem infoNd : (Tryz.prog.info? 189).map (fun i => (i.zero, i.size, i.bytes)) = some (some (.agg #[.int .i64 0, .int .i64 0, .string ⟨#[]⟩, .string ⟨#[]⟩, .int .i64 0, .slice none 0 0]), 6, 80) := by kernel_rfl
/-- Some slice. -/
def SlP (w : World) (e : Ending) (w' : World) : Prop := ∃ (a : Option Addr) (n c : Nat), e = .returned (.slice a n c) ∧ Below w.heap.size w w'
theorem nd_one (s t : ByteArray) : ∀ u ∈ (#[.int .i64 3, .int .i64 0, .string s, .string t, .int .i64 0, .slice none 0 0] : Array Value).toList, u.oneCell' = true := by
  intro u hu
  simp only [List.mem_cons, List.not_mem_nil, or_false] at hu
  rcases hu with rfl | rfl | rfl | rfl | rfl | rfl <;> rfl
set_option maxHeartbeats 4000000 in
theorem alike_any (k0 : Int) (n1 n2 : ByteArray) (L : List Fd) (m : Nat) (a : Option Addr) (c : Nat) (ss : List ByteArray) (vs : Value) (w : World) (hf : Sl w 2 (.slice a m c) (L.map Fd.row)) (hs : Sl w 1 vs (ss.map stRow)) (h6 : ss.length ≤ 6) :
    Calls Tryz.prog 95 #[.agg #[.int .i64 k0, .string n1, .string n2, .slice a m c], vs] w (SlP w) := by
  obtain ⟨b0, cs, rfl⟩ : ∃ a c, vs = .slice a ss.length c := by simpa using hs.shape
  obtain ⟨i0, hi, hz, hsz, hby⟩ := info_parts infoNd
  have HI := Lib.hid (And.intro hi (And.intro hz (And.intro hsz hby)))
  obtain ⟨w0, hw0⟩ : ∃ w0, w0 = w.alloc (.cells #[.int .i64 k0, .string n1, .string n2, .slice a m c] 196) := ⟨_, rfl⟩
  have HX0 : Hid (w0.heap[w.heap.size]? = some (.cells #[.int .i64 k0, .string n1, .string n2, .slice a m c] 196 (0, 0))) := Lib.hid (by rw [hw0]; exact heap_alloc_new w _)
  have HB0 : Hid (Below w.heap.size w w0) := Lib.hid (by rw [hw0]; exact one_below w _)
  have HS := Lib.hid hs
  have HG := Lib.hid (fun (nm : ByteArray) W (hW : Below w.heap.size w W) => getF_any L nm _ W (hf.below hW (Nat.le_refl _)))
  have hsl : ss.length ≤ 6 := h6
  have e0 := hw0.symm
  clear hf hs hi hz hsz hby h6 hw0
  go_enter Tryz.func95, Tryz.ntmps95
  go_wp2_with fail
  (try rw [e0])
  clear e0
  go_loopw [5, 7, 8, 9, 12] (fun v _ _ _ i wr => ∃ (k n : Nat) (xs : List Value), k ≤ ss.length ∧ i = .int .i64 k ∧ n ≤ k ∧ wr.ownsRow w.heap.size 189 6 v n xs ∧ Below w.heap.size w wr ∧ wr.heap[w.heap.size]? = some (.cells #[.int .i64 k0, .string n1, .string n2, .slice a m c] 196 (0, 0))) (fun _ _ _ _ i _ => ss.length - (intOf i).toNat)
  case atStart => exact ⟨0, 0, [], Nat.zero_le _, rfl, Nat.le_refl _, World.ownsRow_nil _ _ _ _, HB0.out, HX0.out⟩
  case round =>
    obtain ⟨k, n, xs, hk, rfl, hnk, hown, hbel, hx⟩ := hrel
    have HBEL := Lib.hid hbel
    by_cases hlt : k < ss.length
    · obtain ⟨b, off, rfl, -, hb, hc⟩ := HS.out.at (i := k) (by simpa using hlt)
      have d0 : wr.cell? ⟨b, off + k, none⟩ = some (.string ss[k]) := (hbel.cell (p := ⟨b, off + k, none⟩) hb).trans (st_cell rfl hc (by simp [hlt]))
      have tk : ((k : Nat) : Int) < (ss.length : Int) := by omega
      have HG1 := Lib.hid (HG.out ss[k])
      have HKL : Hid (k + 1 ≤ ss.length) := Lib.hid hlt
      have HIS := Lib.hid (fun x W => is_any ss[k] x W)
      have HX := Lib.hid hx
      have HOW := Lib.hid hown
      have HNK : Hid (n + 1 ≤ k + 1 ∧ n ≤ 6) := Lib.hid (by omega)
      have c3 := cell_blk hx 3
      have hk6 : (k : Int) ≤ 6 := by omega
      clear hc hb hbel hk hnk hown hx
      generalize ss[k] = s at *
      clear hlt
      go_wp2_with (first
        | ((with_reducible refine (HG1.out _ HBEL.out).mono ?_); rintro e w2 ⟨s2, b2, rfl, hb2⟩; have HB2 := Lib.hid (HBEL.out.trans (hb2.mono HBEL.out.size)); have HX2 := Lib.hid (blk hb2 (lt_blk HX.out) HX.out); have HOW2 := Lib.hid (ownsRow_below HOW.out hb2); clear hb2 c3 d0)
        | ((with_reducible refine (HIS.out _ _).mono ?_); rintro e w3 ⟨rfl, hb3⟩; have HB3 := Lib.hid (HB2.out.trans (hb3.mono HB2.out.size)); have HX3 := Lib.hid (blk hb3 (lt_blk HX2.out) HX2.out); have HOW3 := Lib.hid (ownsRow_below HOW2.out hb3); have HL : Hid (n + 1 ≤ maxLen ∧ (n + 1) * 80 ≤ 140737488355328 ∧ w.heap.size ≤ w3.heap.size) := Lib.hid (by have := HNK.out; have := HB3.out.size; simp only [maxLen]; omega); clear hb3)
        | (((with_reducible refine Any.wpl_push ?_ ?_ ?_ Tryz.underlying187 HI.out.1 HI.out.2.1 HI.out.2.2.1 HI.out.2.2.2 ?_ (by decide) ?_ ((nd_one s s2)) (HOW3.out) HL.out.1 HL.out.2.1 HL.out.2.2 ?_); rfl; rfl; rfl; rfl; rfl; intro v4 w4 hown4 hgrow4 hwho4); have HO4 := Lib.hid hown4; have HB4 := Lib.hid (HB3.out.grown hgrow4 HB3.out.size (fun k hk => (HOW3.out.lt k hk).1)); have HX4 := Lib.hid ((hgrow4.block _ (lt_blk HX3.out) (fun e => row_off HOW3.out HX3.out (by decide) e.symm)).trans HX3.out); clear hown4 hgrow4 hwho4)
        | fail)
      go_roundw
      case rel => exact ⟨k + 1, n + 1, _, HKL.out, by go_num, HNK.out.1, HO4.out, HB4.out, HX4.out⟩
      case measure => have := HKL.out; (simp [intOf]) <;> omega
    · obtain ⟨a2, c2, rfl⟩ := ownsRow_shape hown
      clear hbel hown hx hk hnk
      go_wp2_with fail
      go_ret
      exact ⟨_, _, _, rfl, HBEL.out⟩
theorem list_none (w : World) (ht : TabW w) : Calls Tryz.prog 158 #[.slice none 0 0] w (Ret w (.string ⟨#[97, 108, 108, 10]⟩)) := by
  have h := list_any [] (.slice none 0 0) w ⟨.inl ⟨rfl, none, 0, rfl, fun _ => rfl⟩, fun x hx => by cases hx⟩ ⟨⟨by simp, fun x hx => by cases hx⟩, fun x hx => by cases hx⟩ ht
  exact h
def pakS : List ByteArray := [⟨#[115, 101, 108, 108, 101, 114]⟩, ⟨#[115]⟩, ⟨#[102, 114, 111, 109]⟩, ⟨#[]⟩, ⟨#[116, 111]⟩, ⟨#[]⟩, ⟨#[98, 111, 120, 101, 115]⟩, ⟨#[48]⟩, ⟨#[109, 97, 114, 107, 115]⟩, ⟨#[]⟩, ⟨#[99, 111, 110, 116, 101, 110, 116]⟩, ⟨#[97, 108, 108, 10]⟩]
theorem pakRes : (Tryz.f97).results = #[.cell 2 196] := by kernel_rfl
set_option maxHeartbeats 2000000 in
theorem packing_any (w : World) (ht : TabW w) : Calls Tryz.prog 97 #[.agg dealC] w (DocP w 1 ⟨#[112, 107, 45, 100]⟩ 6 pakS) := by
  obtain ⟨W0, hW0⟩ : ∃ W, W = (w.alloc (.cells dealC 111)).alloc (.cells #[.int .i64 0, .string ⟨#[]⟩, .string ⟨#[]⟩, .slice none 0 0] 196) := ⟨_, rfl⟩
  have h3 := two_boxes w (.cells dealC 111) (.cells #[.int .i64 0, .string ⟨#[]⟩, .string ⟨#[]⟩, .slice none 0 0] 196)
  rw [← hW0] at h3
  have HB0 := Lib.hid h3.1
  have HX0 := Lib.hid h3.2.1
  have HX1 := Lib.hid h3.2.2
  have e0 := hW0.symm
  have hds : dealC.size = 17 := rfl
  have HLI := Lib.hid (fun W (hW : Below W0.heap.size W0 W) => list_none W ((ht.below h3.1).below hW))
  clear h3 hW0 ht
  go_enter Tryz.func97, Tryz.ntmps97
  go_wp2_with fail
  (try rw [e0])
  clear e0
  refine Any.region_litL (fun
    | 0 => Any.val (.pointer (some ⟨w.heap.size, 0, none⟩))
    | 1 => Any.val (.string ⟨#[100]⟩)
    | 2 => Any.val (.string ⟨#[112, 107, 45, 100]⟩)
    | 3 => Any.val (.pointer (some ⟨w.heap.size, 1, none⟩))
    | 4 => Any.val (.string ⟨#[115]⟩)
    | 5 => Any.val (.pointer (some ⟨w.heap.size, 1, none⟩))
    | 6 => Any.val (.string ⟨#[115]⟩)
    | 7 => Any.val (.pointer (some ⟨w.heap.size, 7, none⟩))
    | 8 => Any.val (.string ⟨#[]⟩)
    | 9 => Any.val (.pointer (some ⟨w.heap.size, 8, none⟩))
    | 10 => Any.val (.string ⟨#[]⟩)
    | 11 => Any.val (.pointer (some ⟨w.heap.size, 11, none⟩))
    | 12 => Any.val (.slice none 0 0)
    | 13 => Any.val (.int .i64 0)
    | 14 => Any.val (.string ⟨#[48]⟩)
    | 15 => Any.val (.pointer (some ⟨w.heap.size, 11, none⟩))
    | 16 => Any.val (.slice none 0 0)
    | 17 => Any.val (.string ⟨#[]⟩)
    | 18 => Any.val (.pointer (some ⟨w.heap.size, 11, none⟩))
    | 19 => Any.val (.slice none 0 0)
    | 20 => Any.val (.string ⟨#[97, 108, 108, 10]⟩)
    | 21 => Any.made 9 12 #[.string ⟨#[115, 101, 108, 108, 101, 114]⟩, .string ⟨#[115]⟩, .string ⟨#[102, 114, 111, 109]⟩, .string ⟨#[]⟩, .string ⟨#[116, 111]⟩, .string ⟨#[]⟩, .string ⟨#[98, 111, 120, 101, 115]⟩, .string ⟨#[48]⟩, .string ⟨#[109, 97, 114, 107, 115]⟩, .string ⟨#[]⟩, .string ⟨#[99, 111, 110, 116, 101, 110, 116]⟩, .string ⟨#[97, 108, 108, 10]⟩]
    | 22 => Any.row w.heap.size 256 2 6 (fdCells (fdsN pakS 6)) []
    | 23 => Any.built 3 (fun s => #[.int .i64 1, .string ⟨#[112, 107, 45, 100]⟩, .string ⟨#[115]⟩, s]) w.heap.size 256 2 6 (fdCells (fdsN pakS 6)) 22
    | _ => Any.idle) 24 _ (by kernel_rfl) rfl rfl rfl (by kernel_rfl) (by kernel_rfl) (by kernel_rfl) ?_ ?_ ?_
  · intro i _
    match i with
    | 0 => exact Any.lasts_val _
    | 1 => exact Any.lasts_val _
    | 2 => exact Any.lasts_val _
    | 3 => exact Any.lasts_val _
    | 4 => exact Any.lasts_val _
    | 5 => exact Any.lasts_val _
    | 6 => exact Any.lasts_val _
    | 7 => exact Any.lasts_val _
    | 8 => exact Any.lasts_val _
    | 9 => exact Any.lasts_val _
    | 10 => exact Any.lasts_val _
    | 11 => exact Any.lasts_val _
    | 12 => exact Any.lasts_val _
    | 13 => exact Any.lasts_val _
    | 14 => exact Any.lasts_val _
    | 15 => exact Any.lasts_val _
    | 16 => exact Any.lasts_val _
    | 17 => exact Any.lasts_val _
    | 18 => exact Any.lasts_val _
    | 19 => exact Any.lasts_val _
    | 20 => exact Any.lasts_val _
    | 21 => exact Any.lasts_made _ _ _
    | 22 => exact Any.lasts_row _ _ _ _ _ _
    | 23 => exact Any.lasts_built _ _ _ _ _ _ _ _
    | n + 24 => exact Any.lasts_idle
  · simp only [List.take_succ_cons, List.take_zero]
    refine ⟨?_, ?_, ?_, ?_, ?_, ?_, ?_, ?_, ?_, ?_, ?_, ?_, ?_, ?_, ?_, ?_, ?_, ?_, ?_, ?_, ?_, ?_, ?_, ?_, trivial⟩
    · refine Any.owes_plain rfl fun ρ wo hs' hb hc' => ?_
      have h1 : ρ (.tmp 1) = .pointer (some ⟨w.heap.size, 0, none⟩) := hs'.old' 1 (by kernel_rfl)
      go_simp
      exact Any.post_val hb rfl rfl
    · refine Any.owes_plain rfl fun ρ wo hs' hb hc' => ?_
      have h3 : ρ (.tmp 3) = .pointer (some ⟨w.heap.size, 0, none⟩) := hs'.new' 3 0 (by kernel_rfl)
      have c0 : wo.cell? ⟨w.heap.size, 0, none⟩ = some (.string ⟨#[100]⟩) := cell_blk (blk hb (lt_blk HX0.out) HX0.out) 0
      go_simp
      exact Any.post_val hb rfl rfl
    · refine Any.owes_plain rfl fun ρ wo hs' hb hc' => ?_
      have h4 : ρ (.tmp 4) = .string ⟨#[100]⟩ := hs'.new' 4 1 (by kernel_rfl)
      go_simp
      exact Any.post_val hb rfl rfl
    · refine Any.owes_plain rfl fun ρ wo hs' hb hc' => ?_
      have h1 : ρ (.tmp 1) = .pointer (some ⟨w.heap.size, 0, none⟩) := hs'.old' 1 (by kernel_rfl)
      go_simp
      exact Any.post_val hb rfl rfl
    · refine Any.owes_plain rfl fun ρ wo hs' hb hc' => ?_
      have h6 : ρ (.tmp 6) = .pointer (some ⟨w.heap.size, 1, none⟩) := hs'.new' 6 3 (by kernel_rfl)
      have c0 : wo.cell? ⟨w.heap.size, 1, none⟩ = some (.string ⟨#[115]⟩) := cell_blk (blk hb (lt_blk HX0.out) HX0.out) 1
      go_simp
      exact Any.post_val hb rfl rfl
    · refine Any.owes_plain rfl fun ρ wo hs' hb hc' => ?_
      have h1 : ρ (.tmp 1) = .pointer (some ⟨w.heap.size, 0, none⟩) := hs'.old' 1 (by kernel_rfl)
      go_simp
      exact Any.post_val hb rfl rfl
    · refine Any.owes_plain rfl fun ρ wo hs' hb hc' => ?_
      have h8 : ρ (.tmp 8) = .pointer (some ⟨w.heap.size, 1, none⟩) := hs'.new' 8 5 (by kernel_rfl)
      have c0 : wo.cell? ⟨w.heap.size, 1, none⟩ = some (.string ⟨#[115]⟩) := cell_blk (blk hb (lt_blk HX0.out) HX0.out) 1
      go_simp
      exact Any.post_val hb rfl rfl
    · refine Any.owes_plain rfl fun ρ wo hs' hb hc' => ?_
      have h1 : ρ (.tmp 1) = .pointer (some ⟨w.heap.size, 0, none⟩) := hs'.old' 1 (by kernel_rfl)
      go_simp
      exact Any.post_val hb rfl rfl
    · refine Any.owes_plain rfl fun ρ wo hs' hb hc' => ?_
      have h10 : ρ (.tmp 10) = .pointer (some ⟨w.heap.size, 7, none⟩) := hs'.new' 10 7 (by kernel_rfl)
      have c0 : wo.cell? ⟨w.heap.size, 7, none⟩ = some (.string ⟨#[]⟩) := cell_blk (blk hb (lt_blk HX0.out) HX0.out) 7
      go_simp
      exact Any.post_val hb rfl rfl
    · refine Any.owes_plain rfl fun ρ wo hs' hb hc' => ?_
      have h1 : ρ (.tmp 1) = .pointer (some ⟨w.heap.size, 0, none⟩) := hs'.old' 1 (by kernel_rfl)
      go_simp
      exact Any.post_val hb rfl rfl
    · refine Any.owes_plain rfl fun ρ wo hs' hb hc' => ?_
      have h12 : ρ (.tmp 12) = .pointer (some ⟨w.heap.size, 8, none⟩) := hs'.new' 12 9 (by kernel_rfl)
      have c0 : wo.cell? ⟨w.heap.size, 8, none⟩ = some (.string ⟨#[]⟩) := cell_blk (blk hb (lt_blk HX0.out) HX0.out) 8
      go_simp
      exact Any.post_val hb rfl rfl
    · refine Any.owes_plain rfl fun ρ wo hs' hb hc' => ?_
      have h1 : ρ (.tmp 1) = .pointer (some ⟨w.heap.size, 0, none⟩) := hs'.old' 1 (by kernel_rfl)
      go_simp
      exact Any.post_val hb rfl rfl
    · refine Any.owes_plain rfl fun ρ wo hs' hb hc' => ?_
      have h14 : ρ (.tmp 14) = .pointer (some ⟨w.heap.size, 11, none⟩) := hs'.new' 14 11 (by kernel_rfl)
      have c0 : wo.cell? ⟨w.heap.size, 11, none⟩ = some (.slice none 0 0) := cell_blk (blk hb (lt_blk HX0.out) HX0.out) 11
      go_simp
      exact Any.post_val hb rfl rfl
    · refine Any.owes_plain rfl fun ρ wo hs' hb hc' => ?_
      have h15 : ρ (.tmp 15) = .slice none 0 0 := hs'.new' 15 12 (by kernel_rfl)
      go_simp
      exact Any.post_val hb rfl rfl
    · refine Any.owes_plain rfl fun ρ wo hs' hb hc' => ?_
      have h16 : ρ (.tmp 16) = .int .i64 0 := hs'.new' 16 13 (by kernel_rfl)
      have hf := hs'.func 157
      go_simp
      exact (count_any 0 (by decide) wo).mono fun e w' ⟨he, hb'⟩ => ⟨_, he, Any.post_vals hb rfl rfl hb'⟩
    · refine Any.owes_plain rfl fun ρ wo hs' hb hc' => ?_
      have h1 : ρ (.tmp 1) = .pointer (some ⟨w.heap.size, 0, none⟩) := hs'.old' 1 (by kernel_rfl)
      go_simp
      exact Any.post_val hb rfl rfl
    · refine Any.owes_plain rfl fun ρ wo hs' hb hc' => ?_
      have h18 : ρ (.tmp 18) = .pointer (some ⟨w.heap.size, 11, none⟩) := hs'.new' 18 15 (by kernel_rfl)
      have c0 : wo.cell? ⟨w.heap.size, 11, none⟩ = some (.slice none 0 0) := cell_blk (blk hb (lt_blk HX0.out) HX0.out) 11
      go_simp
      exact Any.post_val hb rfl rfl
    · refine Any.owes_plain rfl fun ρ wo hs' hb hc' => ?_
      have h19 : ρ (.tmp 19) = .slice none 0 0 := hs'.new' 19 16 (by kernel_rfl)
      have hf := hs'.func 99
      go_simp
      exact (marks_none wo).mono fun e w' ⟨he, hb'⟩ => ⟨_, he, Any.post_vals hb rfl rfl hb'⟩
    · refine Any.owes_plain rfl fun ρ wo hs' hb hc' => ?_
      have h1 : ρ (.tmp 1) = .pointer (some ⟨w.heap.size, 0, none⟩) := hs'.old' 1 (by kernel_rfl)
      go_simp
      exact Any.post_val hb rfl rfl
    · refine Any.owes_plain rfl fun ρ wo hs' hb hc' => ?_
      have h21 : ρ (.tmp 21) = .pointer (some ⟨w.heap.size, 11, none⟩) := hs'.new' 21 18 (by kernel_rfl)
      have c0 : wo.cell? ⟨w.heap.size, 11, none⟩ = some (.slice none 0 0) := cell_blk (blk hb (lt_blk HX0.out) HX0.out) 11
      go_simp
      exact Any.post_val hb rfl rfl
    · refine Any.owes_plain rfl fun ρ wo hs' hb hc' => ?_
      have h22 : ρ (.tmp 22) = .slice none 0 0 := hs'.new' 22 19 (by kernel_rfl)
      have hf := hs'.func 158
      go_simp
      exact (HLI.out wo (below_undrew hb)).mono fun e w' ⟨he, hb'⟩ => ⟨_, he, Any.post_vals hb rfl rfl hb'⟩
    · refine Any.owes_plain rfl fun ρ wo hs' hb hc' => ?_
      have h9 : ρ (.tmp 9) = .string ⟨#[115]⟩ := hs'.new' 9 6 (by kernel_rfl)
      have h11 : ρ (.tmp 11) = .string ⟨#[]⟩ := hs'.new' 11 8 (by kernel_rfl)
      have h13 : ρ (.tmp 13) = .string ⟨#[]⟩ := hs'.new' 13 10 (by kernel_rfl)
      have h17 : ρ (.tmp 17) = .string ⟨#[48]⟩ := hs'.new' 17 14 (by kernel_rfl)
      have h20 : ρ (.tmp 20) = .string ⟨#[]⟩ := hs'.new' 20 17 (by kernel_rfl)
      have h23 : ρ (.tmp 23) = .string ⟨#[97, 108, 108, 10]⟩ := hs'.new' 23 20 (by kernel_rfl)
      go_simp
      exact Any.post_new hb ⟨_, rfl, heap_alloc_new _ _⟩ (one_below _ _) (by intro b hb'; obtain rfl : wo.heap.size = b := Option.some.inj hb'; exact Nat.le_refl _)
    · refine Any.owes_plain rfl fun ρ wo hs' hb hc' => ?_
      have hf := hs'.func 155
      have hsl := made_know (ss := pakS) (hs'.new' 24 21 (by kernel_rfl)) rfl rfl
      go_simp
      exact (fields_any 6 pakS _ wo hsl rfl (by decide)).mono fun e w' ⟨v, he, ho, hb'⟩ => ⟨v, he, Any.post_new hb (ownsRow_base ho (Nat.le_trans HB0.out.size hb.size)) hb' (fun b h => (ho.lt b h).1)⟩
    · refine Any.owes_plain rfl fun ρ wo hs' hb hc' => ?_
      have h5 : ρ (.tmp 5) = .string ⟨#[112, 107, 45, 100]⟩ := hs'.new' 5 2 (by kernel_rfl)
      have h7 : ρ (.tmp 7) = .string ⟨#[115]⟩ := hs'.new' 7 4 (by kernel_rfl)
      have hr : wo.ownsRow w.heap.size 256 2 (ρ (.tmp 25)) 6 (fdCells (fdsN pakS 6)) := hs'.new' 25 22 (by kernel_rfl)
      refine Exists.elim (ownsRow_shape hr) fun aJ hJ => Exists.elim hJ fun cJ eJ => ?_
      rw [eJ] at hr
      go_simp
      exact Any.post_built (k := 3) (cells := fun s => #[.int .i64 1, .string ⟨#[112, 107, 45, 100]⟩, .string ⟨#[115]⟩, s]) (j := 22) hb rfl ⟨_, rfl⟩ rfl eJ rfl hr
  intro vals w5 hb hk
  have hq : (Any.built 3 (fun s => #[.int .i64 1, .string ⟨#[112, 107, 45, 100]⟩, .string ⟨#[115]⟩, s]) w.heap.size 256 2 6 (fdCells (fdsN pakS 6)) 22).know (vals 23) w5 := hk 23 (by kernel_rfl)
  have h29 : vals 23 = .agg #[.int .i64 1, .string ⟨#[112, 107, 45, 100]⟩, .string ⟨#[115]⟩, Any.aggAt 3 (vals 23)] := by
    obtain ⟨s, q1, -, q2⟩ := hq
    rw [q1]; rfl
  have hs : w5.ownsRow w.heap.size 256 2 (Any.aggAt 3 (vals 23)) 6 (fdCells (fdsN pakS 6)) := by
    obtain ⟨s, q1, -, q2⟩ := hq
    rw [q1]; exact q2
  have HS5 := Lib.hid hs
  have HX15 := Lib.hid (blk hb (lt_blk HX1.out) HX1.out)
  have HB5 := Lib.hid (HB0.out.trans (hb.mono HB0.out.size))
  clear hk hb hs hq
  simp only [List.take_succ_cons, List.take_zero, Any.putAll]
  go_frame
  simp only [Nat.zero_add, Nat.reduceAdd]
  generalize Any.aggAt 3 (vals 23) = s at h29 HS5
  rw [h29]
  clear h29
  refine Stg.ok_store_row rfl rfl HX15.out (by kernel_rfl) rfl (by obtain ⟨a, c, rfl⟩ := ownsRow_shape HS5.out; simp [Value.oneCell']) ?_
  have he := ownsRow_shape HS5.out
  obtain ⟨aJ, cJ, rfl⟩ := he
  have HF := Lib.hid (setRow_at (cs := #[.int .i64 1, .string ⟨#[112, 107, 45, 100]⟩, .string ⟨#[115]⟩, .slice aJ 6 cJ]) HX15.out)
  go_wp2_with fail
  ((try simp only [Exit.inBlock, Exit.then]); refine bodyPost_ret (results_cell_row pakRes _ _ (w.heap.size + 1) _ _ (0, 0) _ rfl HF.out Tryz.underlying196 rfl (by kernel_rfl)) rfl ?_)
  exact ⟨aJ, cJ, rfl, Any.ownsRow_same HS5.out (fun b hb => setRow_other (fun e => row_off HS5.out HX15.out (by decide) (e ▸ hb))), below_setRow HB5.out (by omega) _⟩
end Go.Proofs.YtbigoifpfkdkjaaGreatDoor.Sc
