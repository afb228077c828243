/- Both lives tell the same: the law's word 'even'. -/
import Derived.Test.YtjabjfkfoenmlaaBound34
import Derived.Test.YtjabjfkfoenmlaaClone34
import Derived.Test.YtjabjfkfoenmlaaGrown34
namespace Go.Proofs.Ytjabjfkfoenmlaa.Sc
open Go Go.RowKit Go.ChangeShapes Go.WideShapes Go.ChangeAt
set_option maxRecDepth 100000

theorem sim_debtor {l x : Lf} (h : Sim l x) : x.debtor = l.debtor := by rw [h.eq]; rfl
theorem sim_bound {l x : Lf} (h : Sim l x) : x.bound = l.bound := by rw [h.eq]; rfl
theorem sim_nexts {l x : Lf} (h : Sim l x) : x.nexts = l.nexts := by rw [h.eq]; rfl
theorem sim_evs {l x : Lf} (h : Sim l x) : x.evs = l.evs := by rw [h.eq]
theorem sim_st {l x : Lf} (h : Sim l x) : x.st = l.st := by rw [h.eq]
theorem owes_spell {c : Cr} {l : Lf} (hl : c.Lives) (g : l.good c) (p : ByteArray) : l.owes p = (!p.toList.isEmpty && (p.toList == l.debtor.toList)) := by
  have hf := good_fit hl g
  rw [str_beq, Lf.owes]
  by_cases hp : p = l.debtor
  · rw [hp]
    simp only [decide_true, Bool.and_true]
    by_cases h4 : l.st = 4
    · have : l.debtor.toList.isEmpty = false := by
        rw [Lf.debtor, if_pos h4, Lf.bank]
        cases hc : l.cf
        · exact hf.e3
        · exact hf.e4 hc
      simp [h4, this]
    · by_cases h5 : l.st = 5
      · have : l.debtor.toList.isEmpty = false := by
          rw [Lf.debtor, if_neg h4, if_pos h5, Lf.payer]
          cases hc : l.cf <;> cases hr : l.rp
          · exact hf.e1
          · exact hf.e1
          · exact hf.e3
          · exact hf.e1
        simp [h5, this]
      · have : l.debtor = ⟨#[]⟩ := by rw [Lf.debtor, if_neg h4, if_neg h5]
        rw [this]
        simp [h4, h5]
  · simp [hp]

set_option maxHeartbeats 4000000 in
theorem even_any (bk bx : Nat) (c : Cr) (l x : Lf) (F G : Nat → Prop) (p0 : ByteArray) (w : World) (h1 : Lv w 74 F bk l) (h2 : Lv w 65 G bx x) (hl : c.Lives) (hg : l.good c) (hs : Sim l x) (hn : l.evs.length ≤ 4000) :
    Calls Try.prog 29 #[.pointer (some ⟨bk, 0, none⟩), .pointer (some ⟨bx, 0, none⟩), .string p0] w (RetB w true) := by
  obtain ⟨hxf, hxe, hxp⟩ := sim_fit hl hg hs
  have HLV1 := Lib.hid h1
  have HLV2 := Lib.hid h2
  obtain ⟨vp, ve, hx⟩ := h2
  have x3 : w.cell? ⟨bx, 3, none⟩ = some (.string x.c.s3) := hx.box.cell 3
  have x1 : w.cell? ⟨bx, 1, none⟩ = some (.string x.c.s1) := hx.box.cell 1
  have x2 : w.cell? ⟨bx, 2, none⟩ = some (.string x.c.s2) := hx.box.cell 2
  have x4 : w.cell? ⟨bx, 4, none⟩ = some (.string x.c.s4) := hx.box.cell 4
  obtain ⟨ps, hps⟩ : ∃ ps, ps = [x.c.s3, x.c.s1, x.c.s2, x.c.s4, p0] := ⟨_, rfl⟩
  have HP : Hid (Sl ((w.alloc (.cells #[.string x.c.s3, .string x.c.s1, .string x.c.s2, .string x.c.s4, .string p0] 9)).drew) 1 (.slice (some ⟨w.heap.size, 0, none⟩) 5 5) (ps.map stRow)) := Lib.hid (by
    rw [hps]; exact (sl_strs w [x.c.s3, x.c.s1, x.c.s2, x.c.s4, p0] 5 rfl (by simp [maxLen])))
  have HPL : Hid (ps.length = 5) := Lib.hid (by rw [hps]; rfl)
  have HB0 : Hid (Below w.heap.size w ((w.alloc (.cells #[.string x.c.s3, .string x.c.s1, .string x.c.s2, .string x.c.s4, .string p0] 9)).drew)) := Lib.hid ((one_below _ _).drew)
  have HSM := Lib.hid hs
  have HL := Lib.hid hl
  have HGD := Lib.hid hg
  have HN := Lib.hid hn
  have HXF := Lib.hid hxf
  have HXE := Lib.hid hxe
  clear h1 hx hl hg hs hn hxf hxe hxp hps
  generalize x.c.s3 = a3 at *
  generalize x.c.s1 = a1 at *
  generalize x.c.s2 = a2 at *
  generalize x.c.s4 = a4 at *
  go_enter Try.func29, Try.ntmps29
  go_wp2_with fail
  go_still_tail 21, (by kernel_rfl)
  change wpList _ _ _ _ _ w.drew
  go_wp2_with fail
  generalize hw1 : (w.alloc (.cells _ 9)).drew = w1 at *
  obtain ⟨ba, hba⟩ : ∃ b, b = w.heap.size := ⟨_, rfl⟩
  rw [← hba] at HP ⊢
  clear hw1 hba x1 x2 x3 x4
  go_loopw [8, 9, 10, 11] (fun i _ _ _ wr => ∃ k : Nat, k ≤ 5 ∧ i = .int .i64 k ∧ Below w1.heap.size w1 wr) (fun i _ _ _ _ => 5 - (intOf i).toNat)
  case atStart => exact ⟨0, Nat.zero_le _, rfl, Below.refl _ _⟩
  case round =>
    obtain ⟨k, hk, rfl, hbel⟩ := hrel
    have HBK := Lib.hid hbel
    have L1 := Lib.hid ((HLV1.out.below HB0.out).below hbel)
    have L2 := Lib.hid ((HLV2.out.below HB0.out).below hbel)
    clear hbel
    by_cases hlt : k < 5
    · have hkp : k < ps.length := by have := HPL.out; omega
      obtain ⟨b', off', hbb, -, hb', hc'⟩ := HP.out.at (i := k) (by simpa using hkp)
      simp only [Option.some.injEq, Addr.mk.injEq, and_true] at hbb
      obtain ⟨rfl, rfl⟩ := hbb
      have hps : ∀ W, Below wr.heap.size wr W → W.cell? ⟨ba, k, none⟩ = some (.string ps[k]) := fun W h => by
        have hlw : ba < wr.heap.size := Nat.lt_of_lt_of_le hb' HBK.out.size
        have := (h.cell (p := ⟨ba, 0 + k, none⟩) hlw).trans ((HBK.out.cell (p := ⟨ba, 0 + k, none⟩) hb').trans (st_cell rfl hc' (s := ps[k]) (List.getElem?_eq_getElem hkp)))
        rwa [Nat.zero_add] at this
      have HPS := Lib.hid hps
      clear hc' hps
      generalize ps[k] = p at *
      have HOW := Lib.hid (fun W (h : Below wr.heap.size wr W) => by
        obtain ⟨vp, ve, hw⟩ := L1.out.below h
        exact owes_any bk l vp ve p W hw.box)
      have HDB := Lib.hid (fun W (h : Below wr.heap.size wr W) => by
        obtain ⟨vp, ve, hw⟩ := L2.out.below h
        have := debtor_any bx x vp ve W hw.box
        rw [sim_debtor HSM.out] at this
        exact this)
      have HNW := Lib.hid (fun W (h : Below wr.heap.size wr W) => by
        obtain ⟨vp, ve, hw⟩ := L2.out.below h
        exact (show W.cell? ⟨bx, 22, none⟩ = some (.int .i64 x.now.amt) from hw.box.cell 22))
      have hsp := owes_spell HL.out HGD.out p
      have HAM : Hid (l.owes p = true → x.now.amt = l.now.amt) := Lib.hid (fun h => by
        rw [HSM.out.now (by simp only [Lf.owes, Bool.and_eq_true, Bool.or_eq_true, decide_eq_true_eq] at h; exact .inr h.1)])
      generalize l.debtor = db at *
      generalize x.now.amt = xm at *
      generalize l.now.amt = lm at *
      generalize l.owes p = ow at *
      have d0 := HPS.out wr (Below.refl _ _)
      have hk5 : (k : Int) < 5 := by omega
      cases hpe : p.toList.isEmpty
      · cases hq : (p.toList == db.toList)
        · rw [hpe, hq] at hsp
          simp only [Bool.and_false] at hsp
          subst hsp
          go_wp2_with (first
            | ((with_reducible refine (HOW.out _ (Below.refl _ _)).mono ?_); rintro e w2 ⟨rfl, hb2⟩; have HB2 := Lib.hid hb2; clear hb2)
            | fail)
          have HPS := Lib.hid (fun W (h : Below w2.heap.size w2 W) => HPS.out W (HB2.out.trans (h.mono HB2.out.size)))
          have HDB := Lib.hid (fun W (h : Below w2.heap.size w2 W) => HDB.out W (HB2.out.trans (h.mono HB2.out.size)))
          have HNW := Lib.hid (fun W (h : Below w2.heap.size w2 W) => HNW.out W (HB2.out.trans (h.mono HB2.out.size)))
          have HBK := Lib.hid (HBK.out.trans (HB2.out.mono HBK.out.size))
          clear d0
          refine Any.region_lit (fun
            | 0 => Any.val (.slice (some ⟨ba, 0, none⟩) 5 5)
            | 1 => Any.val (.int .i64 k)
            | 2 => Any.val (.pointer (some ⟨ba, k, none⟩))
            | 3 => Any.val (.string p)
            | 4 => Any.val (.bool true)
            | 5 => Any.val (.bool true)
            | 6 => Any.val (.slice (some ⟨ba, 0, none⟩) 5 5)
            | 7 => Any.val (.int .i64 k)
            | 8 => Any.val (.pointer (some ⟨ba, k, none⟩))
            | 9 => Any.val (.string p)
            | 10 => Any.val (.pointer (some ⟨bx, 0, none⟩))
            | 11 => Any.val (.string db)
            | 12 => Any.val (.bool false)
            | 13 => Any.val (.bool false)
            | 14 => Any.val (.bool false)
            | _ => Any.idle) (by kernel_rfl) (by kernel_rfl) (by kernel_rfl) ?_ ?_ ?_
          · intro i _
            match i with
            | 0 => exact Any.lasts_val _
            | 1 => exact Any.lasts_val _
            | 2 => exact Any.lasts_val _
            | 3 => exact Any.lasts_val _
            | 4 => exact Any.lasts_val _
            | 5 => exact Any.lasts_val _
            | 6 => exact Any.lasts_val _
            | 7 => exact Any.lasts_val _
            | 8 => exact Any.lasts_val _
            | 9 => exact Any.lasts_val _
            | 10 => exact Any.lasts_val _
            | 11 => exact Any.lasts_val _
            | 12 => exact Any.lasts_val _
            | 13 => exact Any.lasts_val _
            | 14 => exact Any.lasts_val _
            | n + 15 => exact Any.lasts_idle
          · refine ⟨?_, ?_, ?_, ?_, ?_, ?_, ?_, ?_, ?_, ?_, ?_, ?_, ?_, ?_, ?_, trivial⟩
            · refine Any.owes_plain rfl fun ρ wo hs' hb hc' => ?_
              have h7 : ρ (.tmp 7) = .slice (some ⟨ba, 0, none⟩) 5 5 := hs'.old' 7 (by kernel_rfl)
              exact Any.ok_move (Any.post_val hb rfl h7)
            · refine Any.owes_plain rfl fun ρ wo hs' hb hc' => ?_
              have h8 : ρ (.tmp 8) = .int .i64 k := hs'.old' 8 (by kernel_rfl)
              exact Any.ok_move (Any.post_val hb rfl h8)
            · refine Any.owes_plain rfl fun ρ wo hs' hb hc' => ?_
              have h49 : ρ (.tmp 49) = .slice (some ⟨ba, 0, none⟩) 5 5 := hs'.new' 49 0 (by kernel_rfl)
              have h50 : ρ (.tmp 50) = .int .i64 k := hs'.new' 50 1 (by kernel_rfl)
              go_simp
              exact Any.post_val hb rfl rfl
            · refine Any.owes_plain rfl fun ρ wo hs' hb hc' => ?_
              have h51 : ρ (.tmp 51) = .pointer (some ⟨ba, k, none⟩) := hs'.new' 51 2 (by kernel_rfl)
              have c0 := HPS.out wo (below_undrew hb)
              go_simp
              exact Any.post_val hb rfl rfl
            · refine Any.owes_plain rfl fun ρ wo hs' hb hc' => ?_
              have h52 : ρ (.tmp 52) = .string p := hs'.new' 52 3 (by kernel_rfl)
              go_simp
              exact Any.post_val hb rfl rfl
            · refine Any.owes_plain rfl fun ρ wo hs' hb hc' => ?_
              have h53 : ρ (.tmp 53) = .bool true := hs'.new' 53 4 (by kernel_rfl)
              exact Any.ok_move (Any.post_val hb rfl h53)
            · refine Any.owes_on rfl rfl (by kernel_rfl) rfl fun ρ wo hs' hb hc' => ?_
              have h7 : ρ (.tmp 7) = .slice (some ⟨ba, 0, none⟩) 5 5 := hs'.old' 7 (by kernel_rfl)
              exact Any.ok_move (Any.post_val hb rfl h7)
            · refine Any.owes_on rfl rfl (by kernel_rfl) rfl fun ρ wo hs' hb hc' => ?_
              have h8 : ρ (.tmp 8) = .int .i64 k := hs'.old' 8 (by kernel_rfl)
              exact Any.ok_move (Any.post_val hb rfl h8)
            · refine Any.owes_on rfl rfl (by kernel_rfl) rfl fun ρ wo hs' hb hc' => ?_
              have h55 : ρ (.tmp 55) = .slice (some ⟨ba, 0, none⟩) 5 5 := hs'.new' 55 6 (by kernel_rfl)
              have h56 : ρ (.tmp 56) = .int .i64 k := hs'.new' 56 7 (by kernel_rfl)
              go_simp
              exact Any.post_val hb rfl rfl
            · refine Any.owes_on rfl rfl (by kernel_rfl) rfl fun ρ wo hs' hb hc' => ?_
              have h57 : ρ (.tmp 57) = .pointer (some ⟨ba, k, none⟩) := hs'.new' 57 8 (by kernel_rfl)
              have c0 := HPS.out wo (below_undrew hb)
              go_simp
              exact Any.post_val hb rfl rfl
            · refine Any.owes_on rfl rfl (by kernel_rfl) rfl fun ρ wo hs' hb hc' => ?_
              have h1 : ρ (.tmp 1) = .pointer (some ⟨bx, 0, none⟩) := hs'.old' 1 (by kernel_rfl)
              exact Any.ok_move (Any.post_val hb rfl h1)
            · refine Any.owes_on rfl rfl (by kernel_rfl) rfl fun ρ wo hs' hb hc' => ?_
              have h59 : ρ (.tmp 59) = .pointer (some ⟨bx, 0, none⟩) := hs'.new' 59 10 (by kernel_rfl)
              have hf := hs'.func 44
              go_simp
              exact (HDB.out wo (below_undrew hb)).mono fun e w' ⟨he, hb'⟩ => ⟨_, he, Any.post_vals hb rfl rfl hb'⟩
            · refine Any.owes_on rfl rfl (by kernel_rfl) rfl fun ρ wo hs' hb hc' => ?_
              have h58 : ρ (.tmp 58) = .string p := hs'.new' 58 9 (by kernel_rfl)
              have h60 : ρ (.tmp 60) = .string db := hs'.new' 60 11 (by kernel_rfl)
              go_simp
              exact Any.post_val hb rfl rfl
            · refine Any.owes_plain rfl fun ρ wo hs' hb hc' => ?_
              have h54 : ρ (.tmp 54) = .bool true := hs'.new' 54 5 (by kernel_rfl)
              have h61 : ρ (.tmp 61) = .bool false := hs'.new' 61 12 (by kernel_rfl)
              go_simp
              exact Any.post_val hb rfl rfl
            · refine Any.owes_plain rfl fun ρ wo hs' hb hc' => ?_
              have h62 : ρ (.tmp 62) = .bool false := hs'.new' 62 13 (by kernel_rfl)
              exact Any.ok_assign (Any.post_val hb rfl h62)
          · intro vals w3 hb hk ha
            have h14 := hk 14 (by kernel_rfl)
            have HB3 := Lib.hid (HBK.out.trans (hb.mono HBK.out.size))
            have c22 := HNW.out _ hb
            clear hk ha hb
            simp only [Any.putAll]
            go_frame
            simp only [Nat.zero_add, Nat.reduceAdd]
            rw [h14]
            go_wp2_with fail
            go_roundw
            case rel => exact ⟨k + 1, by omega, by go_num, HB3.out⟩
            case measure => (simp [intOf]) <;> omega
        · rw [hpe, hq] at hsp
          simp only [Bool.not_false, Bool.and_true] at hsp
          subst hsp
          obtain rfl : xm = lm := HAM.out rfl
          go_wp2_with (first
            | ((with_reducible refine (HOW.out _ (Below.refl _ _)).mono ?_); rintro e w2 ⟨rfl, hb2⟩; have HB2 := Lib.hid hb2; clear hb2)
            | fail)
          have HPS := Lib.hid (fun W (h : Below w2.heap.size w2 W) => HPS.out W (HB2.out.trans (h.mono HB2.out.size)))
          have HDB := Lib.hid (fun W (h : Below w2.heap.size w2 W) => HDB.out W (HB2.out.trans (h.mono HB2.out.size)))
          have HNW := Lib.hid (fun W (h : Below w2.heap.size w2 W) => HNW.out W (HB2.out.trans (h.mono HB2.out.size)))
          have HBK := Lib.hid (HBK.out.trans (HB2.out.mono HBK.out.size))
          clear d0
          refine Any.region_lit (fun
            | 0 => Any.val (.slice (some ⟨ba, 0, none⟩) 5 5)
            | 1 => Any.val (.int .i64 k)
            | 2 => Any.val (.pointer (some ⟨ba, k, none⟩))
            | 3 => Any.val (.string p)
            | 4 => Any.val (.bool true)
            | 5 => Any.val (.bool true)
            | 6 => Any.val (.slice (some ⟨ba, 0, none⟩) 5 5)
            | 7 => Any.val (.int .i64 k)
            | 8 => Any.val (.pointer (some ⟨ba, k, none⟩))
            | 9 => Any.val (.string p)
            | 10 => Any.val (.pointer (some ⟨bx, 0, none⟩))
            | 11 => Any.val (.string db)
            | 12 => Any.val (.bool true)
            | 13 => Any.val (.bool true)
            | 14 => Any.val (.bool true)
            | _ => Any.idle) (by kernel_rfl) (by kernel_rfl) (by kernel_rfl) ?_ ?_ ?_
          · intro i _
            match i with
            | 0 => exact Any.lasts_val _
            | 1 => exact Any.lasts_val _
            | 2 => exact Any.lasts_val _
            | 3 => exact Any.lasts_val _
            | 4 => exact Any.lasts_val _
            | 5 => exact Any.lasts_val _
            | 6 => exact Any.lasts_val _
            | 7 => exact Any.lasts_val _
            | 8 => exact Any.lasts_val _
            | 9 => exact Any.lasts_val _
            | 10 => exact Any.lasts_val _
            | 11 => exact Any.lasts_val _
            | 12 => exact Any.lasts_val _
            | 13 => exact Any.lasts_val _
            | 14 => exact Any.lasts_val _
            | n + 15 => exact Any.lasts_idle
          · refine ⟨?_, ?_, ?_, ?_, ?_, ?_, ?_, ?_, ?_, ?_, ?_, ?_, ?_, ?_, ?_, trivial⟩
            · refine Any.owes_plain rfl fun ρ wo hs' hb hc' => ?_
              have h7 : ρ (.tmp 7) = .slice (some ⟨ba, 0, none⟩) 5 5 := hs'.old' 7 (by kernel_rfl)
              exact Any.ok_move (Any.post_val hb rfl h7)
            · refine Any.owes_plain rfl fun ρ wo hs' hb hc' => ?_
              have h8 : ρ (.tmp 8) = .int .i64 k := hs'.old' 8 (by kernel_rfl)
              exact Any.ok_move (Any.post_val hb rfl h8)
            · refine Any.owes_plain rfl fun ρ wo hs' hb hc' => ?_
              have h49 : ρ (.tmp 49) = .slice (some ⟨ba, 0, none⟩) 5 5 := hs'.new' 49 0 (by kernel_rfl)
              have h50 : ρ (.tmp 50) = .int .i64 k := hs'.new' 50 1 (by kernel_rfl)
              go_simp
              exact Any.post_val hb rfl rfl
            · refine Any.owes_plain rfl fun ρ wo hs' hb hc' => ?_
              have h51 : ρ (.tmp 51) = .pointer (some ⟨ba, k, none⟩) := hs'.new' 51 2 (by kernel_rfl)
              have c0 := HPS.out wo (below_undrew hb)
              go_simp
              exact Any.post_val hb rfl rfl
            · refine Any.owes_plain rfl fun ρ wo hs' hb hc' => ?_
              have h52 : ρ (.tmp 52) = .string p := hs'.new' 52 3 (by kernel_rfl)
              go_simp
              exact Any.post_val hb rfl rfl
            · refine Any.owes_plain rfl fun ρ wo hs' hb hc' => ?_
              have h53 : ρ (.tmp 53) = .bool true := hs'.new' 53 4 (by kernel_rfl)
              exact Any.ok_move (Any.post_val hb rfl h53)
            · refine Any.owes_on rfl rfl (by kernel_rfl) rfl fun ρ wo hs' hb hc' => ?_
              have h7 : ρ (.tmp 7) = .slice (some ⟨ba, 0, none⟩) 5 5 := hs'.old' 7 (by kernel_rfl)
              exact Any.ok_move (Any.post_val hb rfl h7)
            · refine Any.owes_on rfl rfl (by kernel_rfl) rfl fun ρ wo hs' hb hc' => ?_
              have h8 : ρ (.tmp 8) = .int .i64 k := hs'.old' 8 (by kernel_rfl)
              exact Any.ok_move (Any.post_val hb rfl h8)
            · refine Any.owes_on rfl rfl (by kernel_rfl) rfl fun ρ wo hs' hb hc' => ?_
              have h55 : ρ (.tmp 55) = .slice (some ⟨ba, 0, none⟩) 5 5 := hs'.new' 55 6 (by kernel_rfl)
              have h56 : ρ (.tmp 56) = .int .i64 k := hs'.new' 56 7 (by kernel_rfl)
              go_simp
              exact Any.post_val hb rfl rfl
            · refine Any.owes_on rfl rfl (by kernel_rfl) rfl fun ρ wo hs' hb hc' => ?_
              have h57 : ρ (.tmp 57) = .pointer (some ⟨ba, k, none⟩) := hs'.new' 57 8 (by kernel_rfl)
              have c0 := HPS.out wo (below_undrew hb)
              go_simp
              exact Any.post_val hb rfl rfl
            · refine Any.owes_on rfl rfl (by kernel_rfl) rfl fun ρ wo hs' hb hc' => ?_
              have h1 : ρ (.tmp 1) = .pointer (some ⟨bx, 0, none⟩) := hs'.old' 1 (by kernel_rfl)
              exact Any.ok_move (Any.post_val hb rfl h1)
            · refine Any.owes_on rfl rfl (by kernel_rfl) rfl fun ρ wo hs' hb hc' => ?_
              have h59 : ρ (.tmp 59) = .pointer (some ⟨bx, 0, none⟩) := hs'.new' 59 10 (by kernel_rfl)
              have hf := hs'.func 44
              go_simp
              exact (HDB.out wo (below_undrew hb)).mono fun e w' ⟨he, hb'⟩ => ⟨_, he, Any.post_vals hb rfl rfl hb'⟩
            · refine Any.owes_on rfl rfl (by kernel_rfl) rfl fun ρ wo hs' hb hc' => ?_
              have h58 : ρ (.tmp 58) = .string p := hs'.new' 58 9 (by kernel_rfl)
              have h60 : ρ (.tmp 60) = .string db := hs'.new' 60 11 (by kernel_rfl)
              go_simp
              exact Any.post_val hb rfl rfl
            · refine Any.owes_plain rfl fun ρ wo hs' hb hc' => ?_
              have h54 : ρ (.tmp 54) = .bool true := hs'.new' 54 5 (by kernel_rfl)
              have h61 : ρ (.tmp 61) = .bool true := hs'.new' 61 12 (by kernel_rfl)
              go_simp
              exact Any.post_val hb rfl rfl
            · refine Any.owes_plain rfl fun ρ wo hs' hb hc' => ?_
              have h62 : ρ (.tmp 62) = .bool true := hs'.new' 62 13 (by kernel_rfl)
              exact Any.ok_assign (Any.post_val hb rfl h62)
          · intro vals w3 hb hk ha
            have h14 := hk 14 (by kernel_rfl)
            have HB3 := Lib.hid (HBK.out.trans (hb.mono HBK.out.size))
            have c22 := HNW.out _ hb
            clear hk ha hb
            simp only [Any.putAll]
            go_frame
            simp only [Nat.zero_add, Nat.reduceAdd]
            rw [h14]
            go_wp2_with fail
            go_roundw
            case rel => exact ⟨k + 1, by omega, by go_num, HB3.out⟩
            case measure => (simp [intOf]) <;> omega
      · rw [hpe] at hsp
        simp only [Bool.not_true, Bool.false_and] at hsp
        subst hsp
        go_wp2_with (first
          | ((with_reducible refine (HOW.out _ (Below.refl _ _)).mono ?_); rintro e w2 ⟨rfl, hb2⟩; have HB2 := Lib.hid hb2; clear hb2)
          | fail)
        have HPS := Lib.hid (fun W (h : Below w2.heap.size w2 W) => HPS.out W (HB2.out.trans (h.mono HB2.out.size)))
        have HDB := Lib.hid (fun W (h : Below w2.heap.size w2 W) => HDB.out W (HB2.out.trans (h.mono HB2.out.size)))
        have HNW := Lib.hid (fun W (h : Below w2.heap.size w2 W) => HNW.out W (HB2.out.trans (h.mono HB2.out.size)))
        have HBK := Lib.hid (HBK.out.trans (HB2.out.mono HBK.out.size))
        clear d0
        refine Any.region_lit (fun
          | 0 => Any.val (.slice (some ⟨ba, 0, none⟩) 5 5)
          | 1 => Any.val (.int .i64 k)
          | 2 => Any.val (.pointer (some ⟨ba, k, none⟩))
          | 3 => Any.val (.string p)
          | 4 => Any.val (.bool false)
          | 5 => Any.val (.bool false)
          | 6 => Any.idle
          | 7 => Any.idle
          | 8 => Any.idle
          | 9 => Any.idle
          | 10 => Any.idle
          | 11 => Any.idle
          | 12 => Any.idle
          | 13 => Any.val (.bool false)
          | 14 => Any.val (.bool false)
          | _ => Any.idle) (by kernel_rfl) (by kernel_rfl) (by kernel_rfl) ?_ ?_ ?_
        · intro i _
          match i with
          | 0 => exact Any.lasts_val _
          | 1 => exact Any.lasts_val _
          | 2 => exact Any.lasts_val _
          | 3 => exact Any.lasts_val _
          | 4 => exact Any.lasts_val _
          | 5 => exact Any.lasts_val _
          | 6 => exact Any.lasts_idle
          | 7 => exact Any.lasts_idle
          | 8 => exact Any.lasts_idle
          | 9 => exact Any.lasts_idle
          | 10 => exact Any.lasts_idle
          | 11 => exact Any.lasts_idle
          | 12 => exact Any.lasts_idle
          | 13 => exact Any.lasts_val _
          | 14 => exact Any.lasts_val _
          | n + 15 => exact Any.lasts_idle
        · refine ⟨?_, ?_, ?_, ?_, ?_, ?_, ?_, ?_, ?_, ?_, ?_, ?_, ?_, ?_, ?_, trivial⟩
          · refine Any.owes_plain rfl fun ρ wo hs' hb hc' => ?_
            have h7 : ρ (.tmp 7) = .slice (some ⟨ba, 0, none⟩) 5 5 := hs'.old' 7 (by kernel_rfl)
            exact Any.ok_move (Any.post_val hb rfl h7)
          · refine Any.owes_plain rfl fun ρ wo hs' hb hc' => ?_
            have h8 : ρ (.tmp 8) = .int .i64 k := hs'.old' 8 (by kernel_rfl)
            exact Any.ok_move (Any.post_val hb rfl h8)
          · refine Any.owes_plain rfl fun ρ wo hs' hb hc' => ?_
            have h49 : ρ (.tmp 49) = .slice (some ⟨ba, 0, none⟩) 5 5 := hs'.new' 49 0 (by kernel_rfl)
            have h50 : ρ (.tmp 50) = .int .i64 k := hs'.new' 50 1 (by kernel_rfl)
            go_simp
            exact Any.post_val hb rfl rfl
          · refine Any.owes_plain rfl fun ρ wo hs' hb hc' => ?_
            have h51 : ρ (.tmp 51) = .pointer (some ⟨ba, k, none⟩) := hs'.new' 51 2 (by kernel_rfl)
            have c0 := HPS.out wo (below_undrew hb)
            go_simp
            exact Any.post_val hb rfl rfl
          · refine Any.owes_plain rfl fun ρ wo hs' hb hc' => ?_
            have h52 : ρ (.tmp 52) = .string p := hs'.new' 52 3 (by kernel_rfl)
            go_simp
            exact Any.post_val hb rfl rfl
          · refine Any.owes_plain rfl fun ρ wo hs' hb hc' => ?_
            have h53 : ρ (.tmp 53) = .bool false := hs'.new' 53 4 (by kernel_rfl)
            exact Any.ok_move (Any.post_val hb rfl h53)
          · exact Any.owes_off rfl rfl (by kernel_rfl) rfl (by decide) rfl
          · exact Any.owes_off rfl rfl (by kernel_rfl) rfl (by decide) rfl
          · exact Any.owes_off rfl rfl (by kernel_rfl) rfl (by decide) rfl
          · exact Any.owes_off rfl rfl (by kernel_rfl) rfl (by decide) rfl
          · exact Any.owes_off rfl rfl (by kernel_rfl) rfl (by decide) rfl
          · exact Any.owes_off rfl rfl (by kernel_rfl) rfl (by decide) rfl
          · exact Any.owes_off rfl rfl (by kernel_rfl) rfl (by decide) rfl
          · refine Any.owes_plain rfl fun ρ wo hs' hb hc' => ?_
            have h54 : ρ (.tmp 54) = .bool false := hs'.new' 54 5 (by kernel_rfl)
            go_simp
            exact Any.post_val hb rfl rfl
          · refine Any.owes_plain rfl fun ρ wo hs' hb hc' => ?_
            have h62 : ρ (.tmp 62) = .bool false := hs'.new' 62 13 (by kernel_rfl)
            exact Any.ok_assign (Any.post_val hb rfl h62)
        · intro vals w3 hb hk ha
          have h14 := hk 14 (by kernel_rfl)
          have HB3 := Lib.hid (HBK.out.trans (hb.mono HBK.out.size))
          have c22 := HNW.out _ hb
          clear hk ha hb
          simp only [Any.putAll]
          go_frame
          simp only [Nat.zero_add, Nat.reduceAdd]
          rw [h14]
          go_wp2_with fail
          go_roundw
          case rel => exact ⟨k + 1, by omega, by go_num, HB3.out⟩
          case measure => (simp [intOf]) <;> omega
    · obtain rfl : k = 5 := by omega
      obtain ⟨vp, vx, hx⟩ := L2.out
      have hst := sim_st HSM.out
      have HST := Lib.hid (fun W (h : Below wr.heap.size wr W) => by
        obtain ⟨vp, ve, hw⟩ := L1.out.below h
        exact state_any bk l vp ve W hw.box)
      have HX18 := Lib.hid (fun W (h : Below wr.heap.size wr W) => by
        have := (hx.below h).box.cell 18
        rw [Lf.cell18, hst] at this
        exact this)
      have HX24 := Lib.hid (fun W (h : Below wr.heap.size wr W) => (show W.cell? ⟨bx, 24, none⟩ = some vx from (hx.below h).box.cell 24))
      have HXE : Hid (Sl wr 4 vx (l.evs.map Ev.row)) := Lib.hid (by
        have := own_evs hx.evs rfl
        rwa [HXE.out] at this)
      have HB1 := Lib.hid (fun W (h : Below wr.heap.size wr W) => bound_any bk l F W (L1.out.below h))
      have HB2 := Lib.hid (fun W (h : Below wr.heap.size wr W) => by
        have := refBound_any bx x G W (L2.out.below h)
        rw [sim_bound HSM.out] at this
        exact this)
      have HN1 := Lib.hid (fun W (h : Below wr.heap.size wr W) => next_any bk l F W (L1.out.below h) HGD.out.s0 HGD.out.s7)
      have HN2 := Lib.hid (fun W (h : Below wr.heap.size wr W) => by
        have := refNext_any bx x G W (L2.out.below h) HXF.out
        rw [sim_nexts HSM.out] at this
        exact this)
      have HH := Lib.hid (fun W (h : Below wr.heap.size wr W) => hist_any bk l F W (L1.out.below h) HN.out)
      clear hx hst hk hlt
      generalize l.bound = lb at *
      generalize l.nexts = ln at *
      generalize l.evs = le at *
      generalize l.st = st at *
      go_wp2_with fail
      refine Any.region_lit (fun
        | 0 => Any.val (.pointer (some ⟨bk, 0, none⟩))
        | 1 => Any.val (.int .i64 st)
        | 2 => Any.val (.pointer (some ⟨bx, 0, none⟩))
        | 3 => Any.val (.pointer (some ⟨bx, 0, none⟩))
        | 4 => Any.val (.pointer (some ⟨bx, 18, none⟩))
        | 5 => Any.val (.int .i64 st)
        | 6 => Any.val (.bool true)
        | 7 => Any.val (.bool true)
        | 8 => Any.val (.pointer (some ⟨bk, 0, none⟩))
        | 9 => Any.row wr.heap.size 9 1 lb.length (strCells lb) []
        | 10 => Any.val (.pointer (some ⟨bx, 0, none⟩))
        | 11 => Any.row wr.heap.size 9 1 lb.length (strCells lb) []
        | 12 => Any.val (.bool true)
        | 13 => Any.val (.bool true)
        | 14 => Any.val (.bool true)
        | 15 => Any.val (.pointer (some ⟨bk, 0, none⟩))
        | 16 => Any.row wr.heap.size 3 1 ln.length (inCells ln) []
        | 17 => Any.val (.pointer (some ⟨bx, 0, none⟩))
        | 18 => Any.row wr.heap.size 3 1 ln.length (inCells ln) []
        | 19 => Any.val (.bool true)
        | 20 => Any.val (.bool true)
        | 21 => Any.val (.bool true)
        | 22 => Any.val (.pointer (some ⟨bk, 0, none⟩))
        | 23 => Any.row wr.heap.size 40 4 le.length (evCells le) []
        | 24 => Any.val (.pointer (some ⟨bx, 0, none⟩))
        | 25 => Any.val (.pointer (some ⟨bx, 0, none⟩))
        | 26 => Any.val (.pointer (some ⟨bx, 24, none⟩))
        | 27 => Any.val (vx)
        | 28 => Any.val (.bool true)
        | 29 => Any.val (.bool true)
        | 30 => Any.val (.bool true)
        | _ => Any.idle) (by kernel_rfl) (by kernel_rfl) (by kernel_rfl) ?_ ?_ ?_
      · intro i _
        match i with
        | 0 => exact Any.lasts_val _
        | 1 => exact Any.lasts_val _
        | 2 => exact Any.lasts_val _
        | 3 => exact Any.lasts_val _
        | 4 => exact Any.lasts_val _
        | 5 => exact Any.lasts_val _
        | 6 => exact Any.lasts_val _
        | 7 => exact Any.lasts_val _
        | 8 => exact Any.lasts_val _
        | 9 => exact Any.lasts_row _ _ _ _ _ _
        | 10 => exact Any.lasts_val _
        | 11 => exact Any.lasts_row _ _ _ _ _ _
        | 12 => exact Any.lasts_val _
        | 13 => exact Any.lasts_val _
        | 14 => exact Any.lasts_val _
        | 15 => exact Any.lasts_val _
        | 16 => exact Any.lasts_row _ _ _ _ _ _
        | 17 => exact Any.lasts_val _
        | 18 => exact Any.lasts_row _ _ _ _ _ _
        | 19 => exact Any.lasts_val _
        | 20 => exact Any.lasts_val _
        | 21 => exact Any.lasts_val _
        | 22 => exact Any.lasts_val _
        | 23 => exact Any.lasts_row _ _ _ _ _ _
        | 24 => exact Any.lasts_val _
        | 25 => exact Any.lasts_val _
        | 26 => exact Any.lasts_val _
        | 27 => exact Any.lasts_val _
        | 28 => exact Any.lasts_val _
        | 29 => exact Any.lasts_val _
        | 30 => exact Any.lasts_val _
        | n + 31 => exact Any.lasts_idle
      · refine ⟨?_, ?_, ?_, ?_, ?_, ?_, ?_, ?_, ?_, ?_, ?_, ?_, ?_, ?_, ?_, ?_, ?_, ?_, ?_, ?_, ?_, ?_, ?_, ?_, ?_, ?_, ?_, ?_, ?_, ?_, ?_, trivial⟩
        · refine Any.owes_plain rfl fun ρ wo hs' hb hc' => ?_
          have h0 : ρ (.tmp 0) = .pointer (some ⟨bk, 0, none⟩) := hs'.old' 0 (by kernel_rfl)
          exact Any.ok_move (Any.post_val hb rfl h0)
        · refine Any.owes_plain rfl fun ρ wo hs' hb hc' => ?_
          have h86 : ρ (.tmp 86) = .pointer (some ⟨bk, 0, none⟩) := hs'.new' 86 0 (by kernel_rfl)
          have hf := hs'.func 19
          go_simp
          exact (HST.out wo (below_undrew hb)).mono fun e w' ⟨he, hb'⟩ => ⟨_, he, Any.post_vals hb rfl rfl hb'⟩
        · refine Any.owes_plain rfl fun ρ wo hs' hb hc' => ?_
          have h1 : ρ (.tmp 1) = .pointer (some ⟨bx, 0, none⟩) := hs'.old' 1 (by kernel_rfl)
          exact Any.ok_move (Any.post_val hb rfl h1)
        · refine Any.owes_plain rfl fun ρ wo hs' hb hc' => ?_
          have h88 : ρ (.tmp 88) = .pointer (some ⟨bx, 0, none⟩) := hs'.new' 88 2 (by kernel_rfl)
          go_simp
          exact Any.post_val hb rfl rfl
        · refine Any.owes_plain rfl fun ρ wo hs' hb hc' => ?_
          have h89 : ρ (.tmp 89) = .pointer (some ⟨bx, 0, none⟩) := hs'.new' 89 3 (by kernel_rfl)
          go_simp
          exact Any.post_val hb rfl rfl
        · refine Any.owes_plain rfl fun ρ wo hs' hb hc' => ?_
          have h90 : ρ (.tmp 90) = .pointer (some ⟨bx, 18, none⟩) := hs'.new' 90 4 (by kernel_rfl)
          have c0 := HX18.out wo (below_undrew hb)
          go_simp
          exact Any.post_val hb rfl rfl
        · refine Any.owes_plain rfl fun ρ wo hs' hb hc' => ?_
          have h87 : ρ (.tmp 87) = .int .i64 st := hs'.new' 87 1 (by kernel_rfl)
          have h91 : ρ (.tmp 91) = .int .i64 st := hs'.new' 91 5 (by kernel_rfl)
          go_simp
          exact Any.post_val hb rfl rfl
        · refine Any.owes_plain rfl fun ρ wo hs' hb hc' => ?_
          have h92 : ρ (.tmp 92) = .bool true := hs'.new' 92 6 (by kernel_rfl)
          exact Any.ok_move (Any.post_val hb rfl h92)
        · refine Any.owes_on rfl rfl (by kernel_rfl) rfl fun ρ wo hs' hb hc' => ?_
          have h0 : ρ (.tmp 0) = .pointer (some ⟨bk, 0, none⟩) := hs'.old' 0 (by kernel_rfl)
          exact Any.ok_move (Any.post_val hb rfl h0)
        · refine Any.owes_on rfl rfl (by kernel_rfl) rfl fun ρ wo hs' hb hc' => ?_
          have h94 : ρ (.tmp 94) = .pointer (some ⟨bk, 0, none⟩) := hs'.new' 94 8 (by kernel_rfl)
          have hf := hs'.func 46
          go_simp
          exact (HB1.out wo (below_undrew hb)).mono fun e w' ⟨v, he, ho, hb'⟩ => ⟨v, he, Any.post_new hb (ownsRow_base ho hb.size) hb' (fun b h => (ho.lt b h).1)⟩
        · refine Any.owes_on rfl rfl (by kernel_rfl) rfl fun ρ wo hs' hb hc' => ?_
          have h1 : ρ (.tmp 1) = .pointer (some ⟨bx, 0, none⟩) := hs'.old' 1 (by kernel_rfl)
          exact Any.ok_move (Any.post_val hb rfl h1)
        · refine Any.owes_on rfl rfl (by kernel_rfl) rfl fun ρ wo hs' hb hc' => ?_
          have h96 : ρ (.tmp 96) = .pointer (some ⟨bx, 0, none⟩) := hs'.new' 96 10 (by kernel_rfl)
          have hf := hs'.func 47
          go_simp
          exact (HB2.out wo (below_undrew hb)).mono fun e w' ⟨v, he, ho, hb'⟩ => ⟨v, he, Any.post_new hb (ownsRow_base ho hb.size) hb' (fun b h => (ho.lt b h).1)⟩
        · refine Any.owes_on rfl rfl (by kernel_rfl) rfl fun ρ wo hs' hb hc' => ?_
          have hf := hs'.func 45
          have k1 := own_strs (hs'.new' 95 9 (by kernel_rfl)) rfl
          have k2 := own_strs (hs'.new' 97 11 (by kernel_rfl)) rfl
          go_simp
          exact (refTexts26_any _ _ _ _ wo k1 k2).mono fun e w' ⟨he, hb'⟩ => ⟨_, he, Any.post_vals hb rfl (by rw [decide_eq_true rfl]) hb'⟩
        · refine Any.owes_plain rfl fun ρ wo hs' hb hc' => ?_
          have h93 : ρ (.tmp 93) = .bool true := hs'.new' 93 7 (by kernel_rfl)
          have h98 : ρ (.tmp 98) = .bool true := hs'.new' 98 12 (by kernel_rfl)
          go_simp
          exact Any.post_val hb rfl rfl
        · refine Any.owes_plain rfl fun ρ wo hs' hb hc' => ?_
          have h99 : ρ (.tmp 99) = .bool true := hs'.new' 99 13 (by kernel_rfl)
          exact Any.ok_move (Any.post_val hb rfl h99)
        · refine Any.owes_on rfl rfl (by kernel_rfl) rfl fun ρ wo hs' hb hc' => ?_
          have h0 : ρ (.tmp 0) = .pointer (some ⟨bk, 0, none⟩) := hs'.old' 0 (by kernel_rfl)
          exact Any.ok_move (Any.post_val hb rfl h0)
        · refine Any.owes_on rfl rfl (by kernel_rfl) rfl fun ρ wo hs' hb hc' => ?_
          have h101 : ρ (.tmp 101) = .pointer (some ⟨bk, 0, none⟩) := hs'.new' 101 15 (by kernel_rfl)
          have hf := hs'.func 26
          go_simp
          exact (HN1.out wo (below_undrew hb)).mono fun e w' ⟨v, he, ho, hb'⟩ => ⟨v, he, Any.post_new hb (ownsRow_base ho hb.size) hb' (fun b h => (ho.lt b h).1)⟩
        · refine Any.owes_on rfl rfl (by kernel_rfl) rfl fun ρ wo hs' hb hc' => ?_
          have h1 : ρ (.tmp 1) = .pointer (some ⟨bx, 0, none⟩) := hs'.old' 1 (by kernel_rfl)
          exact Any.ok_move (Any.post_val hb rfl h1)
        · refine Any.owes_on rfl rfl (by kernel_rfl) rfl fun ρ wo hs' hb hc' => ?_
          have h103 : ρ (.tmp 103) = .pointer (some ⟨bx, 0, none⟩) := hs'.new' 103 17 (by kernel_rfl)
          have hf := hs'.func 49
          go_simp
          exact (HN2.out wo (below_undrew hb)).mono fun e w' ⟨v, he, ho, hb'⟩ => ⟨v, he, Any.post_new hb (ownsRow_base ho hb.size) hb' (fun b h => (ho.lt b h).1)⟩
        · refine Any.owes_on rfl rfl (by kernel_rfl) rfl fun ρ wo hs' hb hc' => ?_
          have hf := hs'.func 48
          have k1 := own_ints (hs'.new' 102 16 (by kernel_rfl)) rfl
          have k2 := own_ints (hs'.new' 104 18 (by kernel_rfl)) rfl
          go_simp
          exact (refSame02_any _ _ _ _ wo k1 k2).mono fun e w' ⟨he, hb'⟩ => ⟨_, he, Any.post_vals hb rfl (by rw [decide_eq_true rfl]) hb'⟩
        · refine Any.owes_plain rfl fun ρ wo hs' hb hc' => ?_
          have h100 : ρ (.tmp 100) = .bool true := hs'.new' 100 14 (by kernel_rfl)
          have h105 : ρ (.tmp 105) = .bool true := hs'.new' 105 19 (by kernel_rfl)
          go_simp
          exact Any.post_val hb rfl rfl
        · refine Any.owes_plain rfl fun ρ wo hs' hb hc' => ?_
          have h106 : ρ (.tmp 106) = .bool true := hs'.new' 106 20 (by kernel_rfl)
          exact Any.ok_move (Any.post_val hb rfl h106)
        · refine Any.owes_on rfl rfl (by kernel_rfl) rfl fun ρ wo hs' hb hc' => ?_
          have h0 : ρ (.tmp 0) = .pointer (some ⟨bk, 0, none⟩) := hs'.old' 0 (by kernel_rfl)
          exact Any.ok_move (Any.post_val hb rfl h0)
        · refine Any.owes_on rfl rfl (by kernel_rfl) rfl fun ρ wo hs' hb hc' => ?_
          have h108 : ρ (.tmp 108) = .pointer (some ⟨bk, 0, none⟩) := hs'.new' 108 22 (by kernel_rfl)
          have hf := hs'.func 20
          go_simp
          exact (HH.out wo (below_undrew hb)).mono fun e w' ⟨v, he, ho, hb'⟩ => ⟨v, he, Any.post_new hb (ownsRow_base ho hb.size) hb' (fun b h => (ho.lt b h).1)⟩
        · refine Any.owes_on rfl rfl (by kernel_rfl) rfl fun ρ wo hs' hb hc' => ?_
          have h1 : ρ (.tmp 1) = .pointer (some ⟨bx, 0, none⟩) := hs'.old' 1 (by kernel_rfl)
          exact Any.ok_move (Any.post_val hb rfl h1)
        · refine Any.owes_on rfl rfl (by kernel_rfl) rfl fun ρ wo hs' hb hc' => ?_
          have h110 : ρ (.tmp 110) = .pointer (some ⟨bx, 0, none⟩) := hs'.new' 110 24 (by kernel_rfl)
          go_simp
          exact Any.post_val hb rfl rfl
        · refine Any.owes_on rfl rfl (by kernel_rfl) rfl fun ρ wo hs' hb hc' => ?_
          have h111 : ρ (.tmp 111) = .pointer (some ⟨bx, 0, none⟩) := hs'.new' 111 25 (by kernel_rfl)
          go_simp
          exact Any.post_val hb rfl rfl
        · refine Any.owes_on rfl rfl (by kernel_rfl) rfl fun ρ wo hs' hb hc' => ?_
          have h112 : ρ (.tmp 112) = .pointer (some ⟨bx, 24, none⟩) := hs'.new' 112 26 (by kernel_rfl)
          have c0 := HX24.out wo (below_undrew hb)
          go_simp
          exact Any.post_val hb rfl rfl
        · refine Any.owes_on rfl rfl (by kernel_rfl) rfl fun ρ wo hs' hb hc' => ?_
          have h113 : ρ (.tmp 113) = vx := hs'.new' 113 27 (by kernel_rfl)
          have hf := hs'.func 22
          have k1 := own_evs (hs'.new' 109 23 (by kernel_rfl)) rfl
          go_simp
          exact (refSame34_any _ _ _ _ wo k1 (HXE.out.below (below_undrew hb) (Nat.le_refl _))).mono fun e w' ⟨he, hb'⟩ => ⟨_, he, Any.post_vals hb rfl (by rw [decide_eq_true rfl]) hb'⟩
        · refine Any.owes_plain rfl fun ρ wo hs' hb hc' => ?_
          have h107 : ρ (.tmp 107) = .bool true := hs'.new' 107 21 (by kernel_rfl)
          have h114 : ρ (.tmp 114) = .bool true := hs'.new' 114 28 (by kernel_rfl)
          go_simp
          exact Any.post_val hb rfl rfl
        · refine Any.owes_plain rfl fun ρ wo hs' hb hc' => ?_
          have h115 : ρ (.tmp 115) = .bool true := hs'.new' 115 29 (by kernel_rfl)
          exact Any.ok_assign (Any.post_val hb rfl h115)
      · intro vals w3 hb hk ha
        have h30 := hk 30 (by kernel_rfl)
        have HB3 := Lib.hid (HBK.out.trans (hb.mono HBK.out.size))
        clear hk ha hb
        simp only [Any.putAll]
        go_frame
        simp only [Nat.zero_add, Nat.reduceAdd]
        rw [h30]
        go_wp2_with fail
        go_ret
        exact retB rfl (HB0.out.trans (HB3.out.mono HB0.out.size))
end Go.Proofs.Ytjabjfkfoenmlaa.Sc
