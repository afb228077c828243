/- TopEndorse: the walk. -/
import Derived.Test.YtbigoifpfkdkjaaGreatDoorTe30
namespace Go.Proofs.YtbigoifpfkdkjaaGreatDoor.Sc
open Go Go.RowKit Go.ChangeShapes Go.WideShapes Go.ChangeAt
set_option maxRecDepth 100000

theorem after_end {E : En} {i : Nat} {idx : Int} {b t : ByteArray} (h : EnOk E i) (hi : i ≤ 1000) (hb : nameOk b = true) : EnOk (if askC (endA idx b t (i : Int)) E = 0 then endN E idx ⟨b, t, 0, i⟩ 3 else E) (i + 1) := by
  by_cases hc : askC (endA idx b t (i : Int)) E = 0
  · rw [if_pos hc]
    exact endorsed_ok h hi hb (end_found hc)
  · rw [if_neg hc]
    exact h.mono (Nat.le_succ i)
theorem after_set {E : En} {i : Nat} {c : Prop} [Decidable c] {k : Nat} {s : Int} (h : EnOk E i) : EnOk (if c then E.setSt k s else E) (i + 1) := by
  split
  · exact (h.setSt k s).mono (Nat.le_succ i)
  · exact h.mono (Nat.le_succ i)
theorem after_sur {E : En} {i : Nat} {c : Prop} [Decidable c] {k : Nat} {s : Int} (h : EnOk E i) : EnOk (if c then (endE E 1 3).setSt k s else E) (i + 1) := by
  split
  · exact ((h.ended 1 3).setSt k s).mono (Nat.le_succ i)
  · exact h.mono (Nat.le_succ i)
set_option maxHeartbeats 16000000 in
theorem topEndorse_walk (l : List Dd) (v : Value) (th : Int) (w : World) (ht : TabW w) (hs : Sl w 4 v (l.map Dd.row)) (hf : ∀ x ∈ l, x.fit) (th0 : 0 ≤ th) (th1 : th ≤ 255) :
    Calls Tryz.prog 4 #[v, .int .u8 th] w (RetB w true) := by
  obtain ⟨av, cv, rfl⟩ : ∃ a c, v = .slice a l.length c := by simpa using hs.shape
  have HCN := Lib.hid (fun W => ten_any W)
  have hll : l.length ≤ 9223372036854775807 := by have := hs.len_le; simp only [List.length_map, maxLen] at this; omega
  have HS := Lib.hid hs
  have HF := Lib.hid hf
  have HT := Lib.hid ht
  clear ht hs hf
  by_cases h24 : 24 < l.length
  · have t0 : decide ((24 : Int) < (l.length : Int)) = true := decide_eq_true (by omega)
    have t0' : decide (24 < l.length) = true := decide_eq_true h24
    clear h24
    go_enter Tryz.func4, Tryz.ntmps4
    go_upto_region 2 with (first
      | ((with_reducible refine (HCN.out _).mono ?_); rintro e w1 ⟨rfl, hb1⟩; have HB1 := Lib.hid hb1; clear hb1)
      | fail)
    go_wp2_with (first
      | ((with_reducible refine (HCN.out _).mono ?_); rintro e w2 ⟨rfl, hb2⟩; have HB2 := Lib.hid (HB1.out.trans (hb2.mono HB1.out.size)); clear hb2)
      | fail)
    go_ret
    exact retB rfl HB2.out
  have t0 : decide ((24 : Int) < (l.length : Int)) = false := decide_eq_false (by omega)
  have t0' : decide (24 < l.length) = false := decide_eq_false h24
  have H24 := Lib.hid h24
  have HNW := Lib.hid (fun W => newR_any ⟨#[108, 105, 110, 101]⟩ W)
  obtain ⟨mk, hmk⟩ : ∃ m, m = mkB := ⟨_, rfl⟩
  have HMK : Hid (∀ W, TabW W → Calls Tryz.prog 15 #[.string ⟨#[97, 98, 99, 100]⟩, .int .i64 1] W (Ret W (.tuple #[.string mk, .int .i64 0]))) := Lib.hid (fun W h => by rw [hmk]; exact make_abcd W h)
  have HMO : Hid (markOk (bt mk) = true) := Lib.hid (by rw [hmk]; exact mkB_ok)
  clear h24 hmk
  go_enter Tryz.func4, Tryz.ntmps4
  go_upto_region 5 with (first
    | ((with_reducible refine (HCN.out _).mono ?_); rintro e w1 ⟨rfl, hb1⟩; have HB1 := Lib.hid hb1; clear hb1)
    | ((with_reducible refine (HNW.out _).mono ?_); rintro e w2 ⟨br, bm, rfl, hr2, hl2, hm2, hn2, hb2⟩; have HB2 := Lib.hid (HB1.out.trans (hb2.mono HB1.out.size)); have HR2 := Lib.hid hr2; have HP2 : Hid (w.heap.size ≤ br ∧ w.heap.size ≤ bm ∧ bm ≠ br) := Lib.hid ⟨Nat.le_trans HB1.out.size hl2, Nat.le_trans HB1.out.size hm2, hn2⟩; have HT2 := Lib.hid (HT.out.below HB2.out); clear hr2 hl2 hm2 hn2 hb2)
    | ((with_reducible refine (HMK.out _ HT2.out).mono ?_); rintro e w4 ⟨rfl, hb4⟩; have HB4 := Lib.hid (HB2.out.trans (hb4.mono HB2.out.size)); have HR4 := Lib.hid (HR2.out.below hb4); clear hb4)
    | fail)
  have hb5 := one_below w4 (.cells #[.string mk] 9)
  have HIS := Lib.hid (issue_any br bm w4.heap.size mk (w4.alloc (.cells #[.string mk] 9)) (HR4.out.below hb5) (cell_blk (heap_alloc_new w4 _) 0) (by simp) HMO.out (HT.out.below (HB4.out.trans (hb5.mono HB4.out.size))) HP2.out.2.2)
  have HB5 := Lib.hid (HB4.out.trans (hb5.mono HB4.out.size))
  have HLT : Hid (br < w4.heap.size ∧ bm < w4.heap.size) := Lib.hid ⟨lt_blk HR4.out.rb, HR4.out.mp.lt⟩
  unfold billC at HIS
  clear hb5
  go_upto_region 7 with (first
    | ((with_reducible refine HIS.out.mono ?_); rintro e w6 ⟨be, vb, vp, rfl, hr6, hl6, hk6⟩; have HR6 := Lib.hid hr6; have HE6 : Hid (w4.heap.size ≤ be) := Lib.hid (by simp at hl6; omega); have HB6 : Hid (Below w.heap.size w w6) := Lib.hid (hk6.behind HB5.out HB5.out.size (fun q hq e => by have := HP2.out.2.1; omega)); clear hr6 hl6 hk6)
    | fail)
  have HRX : Hid (Reg w.heap.size w6 br bm be enNew vb vp (.slice none 0 0) (.slice none 0 0) (.slice none 0 0) mk) := Lib.hid (HR6.out.base (by have := HB5.out.size; exact this))
  have hbr : br ≠ be := by have h1 := HLT.out.1; have h2 := HE6.out; omega
  have hbm : bm ≠ be := by have h1 := HLT.out.2; have h2 := HE6.out; omega
  have hbe : w.heap.size ≤ be := by have h1 := HB4.out.size; have h2 := HE6.out; omega
  have HNE := Lib.hid (And.intro hbr (And.intro hbm hbe))
  clear hbr hbm hbe HIS HR6 HE6 HB5 HLT HR4 HB4 HR2 HB2 HT2 HMK HNW HB1
  go_wp2_with fail
  go_loopw [8, 9, 10, 52] (fun _ _ _ i wr => ∃ (k : Nat) (E : En) (y0 y1 y2 : Value), k ≤ l.length ∧ i = .int .i64 k ∧ Reg w.heap.size wr br bm be E vb vp y0 y1 y2 mk ∧ EnOk E k ∧ Below w.heap.size w wr) (fun _ _ _ i _ => l.length - (intOf i).toNat)
  case atStart => exact ⟨0, enNew, _, _, _, Nat.zero_le _, rfl, HRX.out, enNew_ok, HB6.out⟩
  case round =>
    obtain ⟨k, E, y0, y1, y2, hk, rfl, hr, hok, hbel⟩ := hrel
    have HRG := Lib.hid hr
    have HOK := Lib.hid hok
    have HBEL := Lib.hid hbel
    clear hr hok
    by_cases hlt : k < l.length
    · obtain ⟨b, off, rfl, -, hb, hc⟩ := HS.out.at (i := k) (by simpa using hlt)
      have hrw := hc k l[k].row (by simp [hlt])
      have d0 : wr.cell? ⟨b, off + k * 4, none⟩ = some (.int .u8 l[k].kind) := (hbel.cell (p := ⟨b, off + k * 4, none⟩) hb).trans (hrw 0 _ rfl)
      have d1 : wr.cell? ⟨b, off + k * 4 + 1, none⟩ = some (.int .u8 l[k].idx) := (hbel.cell (p := ⟨b, off + k * 4 + 1, none⟩) hb).trans (hrw 1 _ rfl)
      have d2 : wr.cell? ⟨b, off + k * 4 + 2, none⟩ = some (.int .u8 l[k].frm) := (hbel.cell (p := ⟨b, off + k * 4 + 2, none⟩) hb).trans (hrw 2 _ rfl)
      have d3 : wr.cell? ⟨b, off + k * 4 + 3, none⟩ = some (.int .u8 l[k].dst) := (hbel.cell (p := ⟨b, off + k * 4 + 3, none⟩) hb).trans (hrw 3 _ rfl)
      have hft := HF.out _ (List.getElem_mem hlt)
      have tk : ((k : Nat) : Int) < (l.length : Int) := by omega
      have HKL : Hid (k + 1 ≤ l.length) := Lib.hid hlt
      have HK24 : Hid (k ≤ 1000) := Lib.hid (by have := H24.out; omega)
      clear hb hc hrw hk hbel
      generalize l[k] = x at *
      clear hlt
      obtain ⟨kd, ix, fr, to0⟩ := x
      simp only [Dd.fit] at hft
      simp only at d0 d1 d2 d3
      obtain ⟨⟨p1, p2⟩, ⟨p3, p4⟩, ⟨p5, p6⟩, ⟨p7, p8⟩⟩ := hft
      have HNF := Lib.hid (fun W => names_any fr p5 p6 W)
      have HNT := Lib.hid (fun W => names_any to0 p7 p8 W)
      have HBN := Lib.hid (nmB_ok fr)
      generalize nmB fr = bn at *
      generalize nmB to0 = tn at *
      obtain ⟨K, hK⟩ : ∃ K, K = ix % 3 := ⟨_, rfl⟩
      obtain ⟨D, hD⟩ : ∃ D, D = kd % 5 := ⟨_, rfl⟩
      have f1 : ix.tmod 3 = K := by rw [hK]; exact Int.tmod_eq_emod_of_nonneg p3
      have f2 : kd.tmod 5 = D := by rw [hD]; exact Int.tmod_eq_emod_of_nonneg p1
      have hK2 : 0 ≤ K ∧ K ≤ 2 := by omega
      have hD2 : 0 ≤ D ∧ D ≤ 4 := by omega
      have f3 : IntKind.i64.wrap K = K := IntWalk.i64_in _ (by omega)
      have f4 : wrap64 K = K := by unfold wrap64; omega
      obtain ⟨kn, hkn⟩ : ∃ kn : Nat, (K = 0 ∧ kn = 0) ∨ (K = 1 ∧ kn = 1) ∨ (K = 2 ∧ kn = 2) := by
        have h3 : K = 0 ∨ K = 1 ∨ K = 2 := by omega
        rcases h3 with h | h | h
        · exact ⟨0, .inl ⟨h, rfl⟩⟩
        · exact ⟨1, .inr (.inl ⟨h, rfl⟩)⟩
        · exact ⟨2, .inr (.inr ⟨h, rfl⟩)⟩
      have hln : ∀ k', k' < 3 → (E.og k').ch.length ≤ 1000 := fun k' h => Nat.le_trans (HOK.out k' h).len HK24.out
      have HEN := Lib.hid (fun W h => endorse_any K bn tn (k : Int) E w.heap.size br bm be vb vp y0 y1 y2 mk W h HNE.out.1 HNE.out.2.1 HNE.out.2.2 HBN.out hln)
      have HEA := Lib.hid (fun W h => endorse_any (-1) bn tn (k : Int) E w.heap.size br bm be vb vp y0 y1 y2 mk W h HNE.out.1 HNE.out.2.1 HNE.out.2.2 HBN.out hln)
      have HLO := Lib.hid (fun W h => lose_any K kn hkn bn E w.heap.size br bm be vb vp y0 y1 y2 mk W h HNE.out.1 HNE.out.2.1)
      have HRE := Lib.hid (fun W h => replace_any K kn hkn bn (k : Int) E w.heap.size br bm be vb vp y0 y1 y2 mk W h HNE.out.1 HNE.out.2.1)
      have HSU := Lib.hid (fun W h => surrender_any K kn hkn bn (k : Int) E w.heap.size br bm be vb vp y0 y1 y2 mk W h HNE.out.1 HNE.out.2.1)
      unfold b1B at HEN HEA HLO HRE HSU
      clear hK hD hK2 hkn hln p1 p2 p3 p4 p5 p6 p7 p8
      obtain ⟨wd, hwd⟩ : ∃ x, x = wr.alloc (.cells #[.int .u8 kd, .int .u8 ix, .int .u8 fr, .int .u8 to0] 59 (0, 0)) := ⟨_, rfl⟩
      have HWD := Lib.hid hwd
      have hbd : Below wr.heap.size wr wd := hwd ▸ one_below wr _
      have HXD : Hid (wd.heap[wr.heap.size]? = some (.cells #[.int .u8 kd, .int .u8 ix, .int .u8 fr, .int .u8 to0] 59 (0, 0))) := Lib.hid (hwd ▸ heap_alloc_new wr _)
      have HRD := Lib.hid (HRG.out.below hbd)
      have HBD := Lib.hid (HBEL.out.trans (hbd.mono HBEL.out.size))
      clear hwd hbd
      go_upto_region 10 with (first
        | (refine wpList_store_row (P := Tryz.prog) rfl 59 (.tmp 9) (.tmp 56) rfl wr.heap.size #[.int .u8 kd, .int .u8 ix, .int .u8 fr, .int .u8 to0] rfl rfl _ _ (heap_alloc_new wr _) (by kernel_rfl) rfl (by simp [Value.oneCell']) ?_; rw [setRow_new, ← HWD.out])
        | fail)
      clear d0 d1 d2 d3
      have c0 := cell_blk HXD.out 0
      have c1 := cell_blk HXD.out 1
      have c2 := cell_blk HXD.out 2
      have c3 := cell_blk HXD.out 3
      have h5 : D = 0 ∨ D = 1 ∨ D = 2 ∨ D = 3 ∨ D = 4 := by omega
      clear hD2
      rcases h5 with rfl | rfl | rfl | rfl | rfl
      · go_upto_region 14 with fail
        clear c0 c1 c2 c3
        refine Any.region_litL (fun
          | 0 => Any.val (.pointer (some ⟨br, 0, none⟩))
          | 1 => Any.val (.int .i64 K)
          | 2 => Any.val (.pointer (some ⟨wr.heap.size, 2, none⟩))
          | 3 => Any.val (.int .u8 fr)
          | 4 => Any.val (.string bn)
          | 5 => Any.val (.pointer (some ⟨wr.heap.size, 3, none⟩))
          | 6 => Any.val (.int .u8 to0)
          | 7 => Any.val (.string tn)
          | 8 => Any.val (.int .i64 (k : Int))
          | _ => Any.idle) 9 _ (by kernel_rfl) rfl rfl rfl (by kernel_rfl) (by kernel_rfl) (by kernel_rfl) ?_ ?_ ?_
        · intro i _
          match i with
          | 0 => exact Any.lasts_val _
          | 1 => exact Any.lasts_val _
          | 2 => exact Any.lasts_val _
          | 3 => exact Any.lasts_val _
          | 4 => exact Any.lasts_val _
          | 5 => exact Any.lasts_val _
          | 6 => exact Any.lasts_val _
          | 7 => exact Any.lasts_val _
          | 8 => exact Any.lasts_val _
          | n + 9 => exact Any.lasts_idle
        · simp only [List.take_succ_cons, List.take_zero]
          refine ⟨?_, ?_, ?_, ?_, ?_, ?_, ?_, ?_, ?_, trivial⟩
          · refine Any.owes_plain rfl fun ρ wo hs' hb hc' => ?_
            have h5 : ρ (.tmp 5) = .pointer (some ⟨br, 0, none⟩) := hs'.old' 5 (by kernel_rfl)
            exact Any.ok_move (Any.post_val hb rfl h5)
          · refine Any.owes_plain rfl fun ρ wo hs' hb hc' => ?_
            have h10 : ρ (.tmp 10) = .int .i64 K := hs'.old' 10 (by kernel_rfl)
            exact Any.ok_move (Any.post_val hb rfl h10)
          · refine Any.owes_plain rfl fun ρ wo hs' hb hc' => ?_
            have h9 : ρ (.tmp 9) = .pointer (some ⟨wr.heap.size, 0, none⟩) := hs'.old' 9 (by kernel_rfl)
            go_simp
            exact Any.post_val hb rfl rfl
          · refine Any.owes_plain rfl fun ρ wo hs' hb hc' => ?_
            have h75 : ρ (.tmp 75) = .pointer (some ⟨wr.heap.size, 2, none⟩) := hs'.new' 75 2 (by kernel_rfl)
            have c0 : wo.cell? ⟨wr.heap.size, 2, none⟩ = some (.int .u8 fr) := cell_blk (blk (below_undrew hb) (lt_blk HXD.out) HXD.out) 2
            go_simp
            exact Any.post_val hb rfl rfl
          · refine Any.owes_plain rfl fun ρ wo hs' hb hc' => ?_
            have h76 : ρ (.tmp 76) = .int .u8 fr := hs'.new' 76 3 (by kernel_rfl)
            have hf := hs'.func 18
            go_simp
            exact (HNF.out wo).mono fun e w' ⟨he, hb'⟩ => ⟨_, he, Any.post_vals hb rfl rfl hb'⟩
          · refine Any.owes_plain rfl fun ρ wo hs' hb hc' => ?_
            have h9 : ρ (.tmp 9) = .pointer (some ⟨wr.heap.size, 0, none⟩) := hs'.old' 9 (by kernel_rfl)
            go_simp
            exact Any.post_val hb rfl rfl
          · refine Any.owes_plain rfl fun ρ wo hs' hb hc' => ?_
            have h78 : ρ (.tmp 78) = .pointer (some ⟨wr.heap.size, 3, none⟩) := hs'.new' 78 5 (by kernel_rfl)
            have c0 : wo.cell? ⟨wr.heap.size, 3, none⟩ = some (.int .u8 to0) := cell_blk (blk (below_undrew hb) (lt_blk HXD.out) HXD.out) 3
            go_simp
            exact Any.post_val hb rfl rfl
          · refine Any.owes_plain rfl fun ρ wo hs' hb hc' => ?_
            have h79 : ρ (.tmp 79) = .int .u8 to0 := hs'.new' 79 6 (by kernel_rfl)
            have hf := hs'.func 18
            go_simp
            exact (HNT.out wo).mono fun e w' ⟨he, hb'⟩ => ⟨_, he, Any.post_vals hb rfl rfl hb'⟩
          · refine Any.owes_plain rfl fun ρ wo hs' hb hc' => ?_
            have h8 : ρ (.tmp 8) = .int .i64 (k : Int) := hs'.old' 8 (by kernel_rfl)
            exact Any.ok_move (Any.post_val hb rfl h8)
        intro vals w3 hb hk
        have HR3 := Lib.hid (HRD.out.below hb)
        have HB3 := Lib.hid (HBD.out.trans (hb.mono HBD.out.size))
        have h0 : vals 0 = .pointer (some ⟨br, 0, none⟩) := hk 0 (by kernel_rfl)
        have h1 : vals 1 = .int .i64 K := hk 1 (by kernel_rfl)
        have h4 : vals 4 = .string bn := hk 4 (by kernel_rfl)
        have h7 : vals 7 = .string tn := hk 7 (by kernel_rfl)
        have h8 : vals 8 = .int .i64 (k : Int) := hk 8 (by kernel_rfl)
        clear hk hb
        simp only [List.take_succ_cons, List.take_zero, Any.putAll]
        go_frame
        simp only [Nat.zero_add, Nat.reduceAdd]
        rw [h0, h1, h4, h7, h8]
        clear h0 h1 h4 h7 h8
        go_simp
        refine (HEN.out _ HR3.out).mono ?_
        rintro en w4 ⟨c, z0, z1, z2, rfl, hr4, hk4⟩
        have HR4 := Lib.hid hr4
        have HB4 : Hid (Below w.heap.size w w4) := Lib.hid (hk4.behind HB3.out HB3.out.size (fun q hq h => by omega))
        clear hr4 hk4
        refine ⟨_, rfl, ?_⟩
        go_wp2_with fail
        go_roundw
        case rel => exact ⟨k + 1, _, z0, z1, z2, HKL.out, by go_num, HR4.out, after_end HOK.out HK24.out HBN.out, HB4.out⟩
        case measure => have := HKL.out; (simp [intOf]) <;> omega
      · go_upto_region 16 with fail
        clear c0 c1 c2 c3
        refine Any.region_litL (fun
          | 0 => Any.val (.pointer (some ⟨br, 0, none⟩))
          | 1 => Any.val (.pointer (some ⟨wr.heap.size, 2, none⟩))
          | 2 => Any.val (.int .u8 fr)
          | 3 => Any.val (.string bn)
          | 4 => Any.val (.pointer (some ⟨wr.heap.size, 3, none⟩))
          | 5 => Any.val (.int .u8 to0)
          | 6 => Any.val (.string tn)
          | 7 => Any.val (.int .i64 (k : Int))
          | _ => Any.idle) 8 _ (by kernel_rfl) rfl rfl rfl (by kernel_rfl) (by kernel_rfl) (by kernel_rfl) ?_ ?_ ?_
        · intro i _
          match i with
          | 0 => exact Any.lasts_val _
          | 1 => exact Any.lasts_val _
          | 2 => exact Any.lasts_val _
          | 3 => exact Any.lasts_val _
          | 4 => exact Any.lasts_val _
          | 5 => exact Any.lasts_val _
          | 6 => exact Any.lasts_val _
          | 7 => exact Any.lasts_val _
          | n + 8 => exact Any.lasts_idle
        · simp only [List.take_succ_cons, List.take_zero]
          refine ⟨?_, ?_, ?_, ?_, ?_, ?_, ?_, ?_, trivial⟩
          · refine Any.owes_plain rfl fun ρ wo hs' hb hc' => ?_
            have h5 : ρ (.tmp 5) = .pointer (some ⟨br, 0, none⟩) := hs'.old' 5 (by kernel_rfl)
            exact Any.ok_move (Any.post_val hb rfl h5)
          · refine Any.owes_plain rfl fun ρ wo hs' hb hc' => ?_
            have h9 : ρ (.tmp 9) = .pointer (some ⟨wr.heap.size, 0, none⟩) := hs'.old' 9 (by kernel_rfl)
            go_simp
            exact Any.post_val hb rfl rfl
          · refine Any.owes_plain rfl fun ρ wo hs' hb hc' => ?_
            have h86 : ρ (.tmp 86) = .pointer (some ⟨wr.heap.size, 2, none⟩) := hs'.new' 86 1 (by kernel_rfl)
            have c0 : wo.cell? ⟨wr.heap.size, 2, none⟩ = some (.int .u8 fr) := cell_blk (blk (below_undrew hb) (lt_blk HXD.out) HXD.out) 2
            go_simp
            exact Any.post_val hb rfl rfl
          · refine Any.owes_plain rfl fun ρ wo hs' hb hc' => ?_
            have h87 : ρ (.tmp 87) = .int .u8 fr := hs'.new' 87 2 (by kernel_rfl)
            have hf := hs'.func 18
            go_simp
            exact (HNF.out wo).mono fun e w' ⟨he, hb'⟩ => ⟨_, he, Any.post_vals hb rfl rfl hb'⟩
          · refine Any.owes_plain rfl fun ρ wo hs' hb hc' => ?_
            have h9 : ρ (.tmp 9) = .pointer (some ⟨wr.heap.size, 0, none⟩) := hs'.old' 9 (by kernel_rfl)
            go_simp
            exact Any.post_val hb rfl rfl
          · refine Any.owes_plain rfl fun ρ wo hs' hb hc' => ?_
            have h89 : ρ (.tmp 89) = .pointer (some ⟨wr.heap.size, 3, none⟩) := hs'.new' 89 4 (by kernel_rfl)
            have c0 : wo.cell? ⟨wr.heap.size, 3, none⟩ = some (.int .u8 to0) := cell_blk (blk (below_undrew hb) (lt_blk HXD.out) HXD.out) 3
            go_simp
            exact Any.post_val hb rfl rfl
          · refine Any.owes_plain rfl fun ρ wo hs' hb hc' => ?_
            have h90 : ρ (.tmp 90) = .int .u8 to0 := hs'.new' 90 5 (by kernel_rfl)
            have hf := hs'.func 18
            go_simp
            exact (HNT.out wo).mono fun e w' ⟨he, hb'⟩ => ⟨_, he, Any.post_vals hb rfl rfl hb'⟩
          · refine Any.owes_plain rfl fun ρ wo hs' hb hc' => ?_
            have h8 : ρ (.tmp 8) = .int .i64 (k : Int) := hs'.old' 8 (by kernel_rfl)
            exact Any.ok_move (Any.post_val hb rfl h8)
        intro vals w3 hb hk
        have HR3 := Lib.hid (HRD.out.below hb)
        have HB3 := Lib.hid (HBD.out.trans (hb.mono HBD.out.size))
        have h0 : vals 0 = .pointer (some ⟨br, 0, none⟩) := hk 0 (by kernel_rfl)
        have h3 : vals 3 = .string bn := hk 3 (by kernel_rfl)
        have h6 : vals 6 = .string tn := hk 6 (by kernel_rfl)
        have h7 : vals 7 = .int .i64 (k : Int) := hk 7 (by kernel_rfl)
        clear hk hb
        simp only [List.take_succ_cons, List.take_zero, Any.putAll]
        go_frame
        simp only [Nat.zero_add, Nat.reduceAdd]
        rw [h0, h3, h6, h7]
        clear h0 h3 h6 h7
        go_simp
        refine (HEA.out _ HR3.out).mono ?_
        rintro en w4 ⟨c, z0, z1, z2, rfl, hr4, hk4⟩
        have HR4 := Lib.hid hr4
        have HB4 : Hid (Below w.heap.size w w4) := Lib.hid (hk4.behind HB3.out HB3.out.size (fun q hq h => by omega))
        clear hr4 hk4
        refine ⟨_, rfl, ?_⟩
        go_wp2_with fail
        go_roundw
        case rel => exact ⟨k + 1, _, z0, z1, z2, HKL.out, by go_num, HR4.out, after_end HOK.out HK24.out HBN.out, HB4.out⟩
        case measure => have := HKL.out; (simp [intOf]) <;> omega
      · go_wp2_with (first
          | ((with_reducible refine (HNF.out _).mono ?_); rintro en w3 ⟨rfl, hb3⟩; have HR3 := Lib.hid (HRD.out.below hb3); have HB3 := Lib.hid (HBD.out.trans (hb3.mono HBD.out.size)); clear hb3)
          | ((with_reducible refine (HLO.out _ HR3.out).mono ?_); rintro en w4 ⟨c, rfl, hr4, hk4⟩; have HR4 := Lib.hid hr4; have HB4 : Hid (Below w.heap.size w w4) := Lib.hid (hk4.behind HB3.out HB3.out.size (fun q hq h => by have := HNE.out.2.2; omega)); clear hr4 hk4)
          | fail)
        go_roundw
        case rel => exact ⟨k + 1, _, y0, y1, y2, HKL.out, by go_num, HR4.out, after_set HOK.out, HB4.out⟩
        case measure => have := HKL.out; (simp [intOf]) <;> omega
      · go_wp2_with (first
          | ((with_reducible refine (HNF.out _).mono ?_); rintro en w3 ⟨rfl, hb3⟩; have HR3 := Lib.hid (HRD.out.below hb3); have HB3 := Lib.hid (HBD.out.trans (hb3.mono HBD.out.size)); clear hb3)
          | ((with_reducible refine (HRE.out _ HR3.out).mono ?_); rintro en w4 ⟨c, rfl, hr4, hk4⟩; have HR4 := Lib.hid hr4; have HB4 : Hid (Below w.heap.size w w4) := Lib.hid (hk4.behind HB3.out HB3.out.size (fun q hq h => by have := HNE.out.2.2; omega)); clear hr4 hk4)
          | fail)
        go_roundw
        case rel => exact ⟨k + 1, _, y0, y1, y2, HKL.out, by go_num, HR4.out, after_set HOK.out, HB4.out⟩
        case measure => have := HKL.out; (simp [intOf]) <;> omega
      · go_wp2_with (first
          | ((with_reducible refine (HNF.out _).mono ?_); rintro en w3 ⟨rfl, hb3⟩; have HR3 := Lib.hid (HRD.out.below hb3); have HB3 := Lib.hid (HBD.out.trans (hb3.mono HBD.out.size)); clear hb3)
          | ((with_reducible refine (HSU.out _ HR3.out).mono ?_); rintro en w4 ⟨vs, c, rfl, hr4, hk4⟩; have HR4 := Lib.hid hr4; have HB4 : Hid (Below w.heap.size w w4) := Lib.hid (hk4.behind HB3.out HB3.out.size (fun q hq h => by have := HNE.out.2.2; omega)); clear hr4 hk4)
          | fail)
        go_roundw
        case rel => exact ⟨k + 1, _, y0, y1, y2, HKL.out, by go_num, HR4.out, after_sur HOK.out, HB4.out⟩
        case measure => have := HKL.out; (simp [intOf]) <;> omega
    · obtain rfl : k = l.length := by omega
      have HL24 : Hid (l.length ≤ 24) := Lib.hid (by have := H24.out; omega)
      have HOR := Lib.hid (origs_any E w.heap.size br bm be vb vp y0 y1 y2 mk wr HRG.out)
      unfold b1B at HOR
      have HNT := Lib.hid (fun W => names_any th th0 th1 W)
      have HBN := Lib.hid (nmB_ok th)
      have HFE := Lib.hid (nmB_fence th)
      obtain ⟨i0, hi, hz, hsz, hby⟩ := info_parts infoEd
      have HI := Lib.hid (And.intro hi (And.intro hz (And.intro hsz hby)))
      generalize nmB th = tn at *
      clear hk hlt hbel hi hz hsz hby th0 th1
      go_upto_region 23 with (first
        | ((with_reducible refine HOR.out.mono ?_); rintro en w7 ⟨v7, rfl, ho7, hb7⟩; obtain ⟨a7, c7, rfl⟩ := ownsRow_shape ho7; have HSA := Lib.hid (ao_sl ho7); have HR7 := Lib.hid (HRG.out.below hb7); have HB7 := Lib.hid (HBEL.out.trans (hb7.mono HBEL.out.size)); clear ho7 hb7)
        | fail)
      clear HOR HRG HBEL
      go_wp2_with fail
      go_loopw [12, 13, 14, 15, 16, 17, 18, 19, 20, 21, 22, 119] (fun _ _ _ _ _ _ _ _ _ _ _ i wr => ∃ k : Nat, k ≤ 3 ∧ i = .int .i64 k ∧ Below w7.heap.size w7 wr) (fun _ _ _ _ _ _ _ _ _ _ _ i _ => 3 - (intOf i).toNat)
      case atStart => exact ⟨0, by decide, rfl, Below.refl _ _⟩
      case round =>
        obtain ⟨k, hk, rfl, hbel⟩ := hrel
        by_cases hk3 : k < 3
        · obtain ⟨b, off, rfl, -, hb, q0, q1, q2, q3⟩ := ao_at HSA.out hk3
          have d0 : wr.cell? ⟨b, off + k * 4, none⟩ = some (.string b1B) := (hbel.cell (p := ⟨b, off + k * 4, none⟩) hb).trans q0
          have d1 := (hbel.cell (p := ⟨b, off + k * 4 + 1, none⟩) hb).trans q1
          have d2 := (hbel.cell (p := ⟨b, off + k * 4 + 2, none⟩) hb).trans q2
          have d3 := (hbel.cell (p := ⟨b, off + k * 4 + 3, none⟩) hb).trans q3
          have tk : (k : Int) < 3 := by omega
          have HK3 := Lib.hid hk3
          have hkn : ((k : Int) = 0 ∧ k = 0) ∨ ((k : Int) = 1 ∧ k = 1) ∨ ((k : Int) = 2 ∧ k = 2) := by omega
          have hog := HOK.out k hk3
          have HCH := Lib.hid (fun W (hW : Below w7.heap.size w7 W) => chain_any (k : Int) k hkn E w.heap.size br bm be vb vp y0 y1 y2 mk W (HR7.out.below hW) (by have h1 := hog.len; have h2 := HL24.out; omega))
          unfold b1B at HCH d0
          have HCR := Lib.hid hog.ch
          have HHD := Lib.hid hog.hd
          have HLN : Hid ((E.og k).ch.length ≤ 24) := Lib.hid (by have h1 := hog.len; have h2 := HL24.out; omega)
          have HBEL := Lib.hid hbel
          clear hkn hog hb q0 q1 q2 q3 hk hk3 hbel
          generalize (E.og k).st = ost at *
          generalize (E.og k).hd = ohd at *
          generalize (E.og k).ch = M at *
          obtain ⟨wd, hwd⟩ : ∃ x, x = wr.alloc (.cells #[.string ⟨#[98, 49]⟩, .int .i64 k, .int .i64 ost, .string ohd] 69 (0, 0)) := ⟨_, rfl⟩
          have HWD := Lib.hid hwd
          have hbd : Below wr.heap.size wr wd := hwd ▸ one_below wr _
          have HXD : Hid (wd.heap[wr.heap.size]? = some (.cells #[.string ⟨#[98, 49]⟩, .int .i64 k, .int .i64 ost, .string ohd] 69 (0, 0))) := Lib.hid (hwd ▸ heap_alloc_new wr _)
          have HBD := Lib.hid (HBEL.out.trans (hbd.mono HBEL.out.size))
          clear hwd hbd
          go_upto_region 29 with (first
            | (refine wpList_store_row (P := Tryz.prog) rfl 69 (.tmp 13) (.tmp 123) rfl wr.heap.size #[.string ⟨#[98, 49]⟩, .int .i64 k, .int .i64 ost, .string ohd] rfl rfl _ _ (heap_alloc_new wr _) (by kernel_rfl) rfl (by simp [Value.oneCell']) ?_; rw [setRow_new, ← HWD.out])
            | ((with_reducible refine (HCH.out wd HBD.out).mono ?_); rintro en w9 ⟨v9, rfl, ho9, hb9⟩; obtain ⟨a9, c9, rfl⟩ := ownsRow_shape ho9; have HS9 := Lib.hid (own_eds ho9 rfl); have HX9 := Lib.hid (blk hb9 (lt_blk HXD.out) HXD.out); have HB9 := Lib.hid (HBD.out.trans (hb9.mono HBD.out.size)); clear ho9 hb9)
            | fail)
          clear d0 d1 d2 d3 HCH
          have HCK : Hid (Calls Tryz.prog 24 #[.string ⟨#[115]⟩, .slice a9 M.length c9] w9 (Ret w9 (.tuple #[.string ohd, .int .i64 M.length, .int .i64 0]))) := Lib.hid (by rw [← HHD.out]; exact check_right sHd M _ w9 HS9.out sHd_ok HCR.out)
          have hq : ∀ W : World, Below w9.heap.size w9 W → Sl W 4 (.slice a9 M.length c9) (M.map Ed.row) := fun W hW => HS9.out.below hW (Nat.le_refl _)
          have HSQ := Lib.hid hq
          have t9 : (ohd.toList == ohd.toList) = true := by rw [str_beq]; exact decide_eq_true rfl
          clear hq
          go_upto_region 33 with (first
            | ((with_reducible refine HCK.out.mono ?_); rintro en wA ⟨rfl, hbA⟩; have HBA9 := Lib.hid hbA; have HBA := Lib.hid (HB9.out.trans (hbA.mono HB9.out.size)); have e3 := cell_blk (blk hbA (lt_blk HX9.out) HX9.out) 3; clear hbA)
            | ((with_reducible refine (HNT.out _).mono ?_); rintro en wB ⟨rfl, hbB⟩; have HBB9 := Lib.hid (HBA9.out.trans (hbB.mono HBA9.out.size)); have HBB := Lib.hid (HBA.out.trans (hbB.mono HBA.out.size)); clear hbB)
            | fail)
          clear e3 t9 HCK
          by_cases hwh : tn = ohd
          · have t1 : (tn.toList == ohd.toList) = true := by rw [str_beq]; exact decide_eq_true hwh
            clear hwh
            go_wp2_with fail
            go_roundw
            case rel => exact ⟨k + 1, HK3.out, by go_num, HBB.out⟩
            case measure => have := HK3.out; (simp [intOf]) <;> omega
          · have t1 : (tn.toList == ohd.toList) = false := by rw [str_beq]; exact decide_eq_false hwh
            have HWH : Hid (tn ≠ hlT sHd M) := Lib.hid (by rw [HHD.out]; exact hwh)
            have HSRC : Hid (Src (wB.alloc (.cells #[] 75 (0, 0))) 4 (.slice a9 M.length c9) M.length (edCells M)) := Lib.hid (src_eds ((HSQ.out wB HBB9.out).below (one_below wB _) (Nat.le_refl _)))
            have HL : Hid (0 + M.length ≤ maxLen ∧ (0 + M.length) * 48 ≤ 140737488355328) := Lib.hid (by have := HLN.out; simp only [maxLen]; omega)
            have HON : ∀ u ∈ (#[.string tn, .string ⟨#[102, 101, 110, 99, 101]⟩, .int .i64 0, .int .i64 (l.length : Int)] : Array Value).toList, u.oneCell' = true := ed_one ⟨tn, ⟨#[102, 101, 110, 99, 101]⟩, 0, l.length⟩
            have HLP : Hid (∀ W : World, wB.heap.size ≤ W.heap.size → M.length + 1 ≤ maxLen ∧ (M.length + 1) * 48 ≤ 140737488355328 ∧ wB.heap.size ≤ W.heap.size) := Lib.hid (fun W h => by have := HLN.out; simp only [maxLen]; omega)
            have HBF := Lib.hid (one_below wB (.cells #[] 75 (0, 0)))
            clear hwh
            go_upto_region 35 with (first
              | ((refine Any.wpl_append (size := 4) (bytes := 48) (n := 0) (m := M.length) (base := wB.heap.size) (vx := .slice (some ⟨wB.heap.size, 0, none⟩) 0 0) (vy := .slice a9 M.length c9) ?_ ?_ ?_ Tryz.underlying70 HI.out.1 HI.out.2.1 HI.out.2.2.1 HI.out.2.2.2 ?_ (by decide) (own_empty (Nat.le_refl _)) HSRC.out (eds_one _) HL.out.1 HL.out.2 (by simp) ?_); rfl; rfl; rfl; rfl; intro vC wC hownC hgC hwC; rw [Nat.zero_add, List.nil_append] at hownC; obtain ⟨aC, cC, rfl⟩ := ownsRow_shape hownC; have HOC := Lib.hid hownC; have HBC : Hid (Below wB.heap.size wB wC) := Lib.hid (HBF.out.grown hgC (by simp) (fun k hk => Nat.le_of_eq (Option.some.inj hk))); have HLC := Lib.hid (HLP.out wC HBC.out.size); clear hownC hgC hwC)
              | (((with_reducible refine Any.wpl_push ?_ ?_ ?_ Tryz.underlying70 HI.out.1 HI.out.2.1 HI.out.2.2.1 HI.out.2.2.2 ?_ (by decide) ?_ (HON) (HOC.out) HLC.out.1 HLC.out.2.1 HLC.out.2.2 ?_); rfl; rfl; rfl; rfl; rfl; intro vD wD hownD hgrowD hwhoD); have HOD := Lib.hid hownD; have HBD2 : Hid (Below wB.heap.size wB wD) := Lib.hid (HBC.out.grown hgrowD HBC.out.size (fun k hk => (HOC.out.lt k hk).1)); clear hownD hgrowD hwhoD)
              | fail)
            obtain ⟨aD, cD, rfl⟩ := ownsRow_shape HOD.out
            have HSD : Hid (Sl wD 4 (.slice aD (M.length + 1) cD) ((M ++ [Ed.mk tn ⟨#[102, 101, 110, 99, 101]⟩ 0 l.length]).map Ed.row)) := Lib.hid (by
              refine own_eds (B := wB.heap.size) (n := M.length + 1) ?_ (by simp)
              rw [edCells_append]
              simpa [edCells, Ed.row, Ed.cells] using HOD.out)
            have HCB := Lib.hid (check_broken sHd M (Ed.mk tn ⟨#[102, 101, 110, 99, 101]⟩ 0 l.length) _ wD HSD.out sHd_ok HCR.out rfl (thief_may HBN.out HL24.out HFE.out) HWH.out)
            have HMY := Lib.hid (fun W (hW : Below w9.heap.size w9 W) => mayEn_no sHd tn M _ W (HSQ.out W hW) sHd_ok HCR.out HBN.out HWH.out)
            unfold sHd at HCB HMY
            have HBD9 := Lib.hid (HBB9.out.trans (HBD2.out.mono HBB9.out.size))
            have HBDX := Lib.hid (HBB.out.trans (HBD2.out.mono HBB.out.size))
            clear HSRC HL HON HLP HBF t1
            go_wp2_with (first
              | ((with_reducible refine HCB.out.mono ?_); rintro en wE ⟨rfl, hbE⟩; have HBE9 := Lib.hid (HBD9.out.trans (hbE.mono HBD9.out.size)); have HBE := Lib.hid (HBDX.out.trans (hbE.mono HBDX.out.size)); clear hbE)
              | ((with_reducible refine (HMY.out _ HBE9.out).mono ?_); rintro en wF ⟨rfl, hbF⟩; have HBFX := Lib.hid (HBE.out.trans (hbF.mono HBE.out.size)); clear hbF)
              | fail)
            go_roundw
            case rel => exact ⟨k + 1, HK3.out, by go_num, HBFX.out⟩
            case measure => have := HK3.out; (simp [intOf]) <;> omega
        · obtain rfl : k = 3 := by omega
          have HBX := Lib.hid (HB7.out.trans (hbel.mono HB7.out.size))
          clear hk hk3 hbel
          go_wp2_with fail
          go_ret
          exact retB rfl HBX.out
end Go.Proofs.YtbigoifpfkdkjaaGreatDoor.Sc
