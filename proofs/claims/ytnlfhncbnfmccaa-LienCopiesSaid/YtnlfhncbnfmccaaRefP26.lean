/- Pledge: by the reference. -/
import Derived.Test.YtnlfhncbnfmccaaMay26
import Derived.OwnWalk
import Derived.Test.YtnlfhncbnfmccaaKeep
namespace Go.Proofs.Ytnlfhncbnfmccaa.Sc
open Go Go.RowKit Go.ChangeShapes Go.WideShapes Go.ChangeAt
set_option maxRecDepth 100000

def isT (t : ByteArray) (f : Pg → Bool) (x : Pg) : Bool := decide (x.thing = t) && f x
theorem any_ofT (l : List Pg) (t : ByteArray) (f : Pg → Bool) : (ofT l t).any f = l.any (isT t f) := by rw [ofT, List.any_filter]; rfl
def LiP (w : World) (F : Nat → Prop) (l : List Pg) (c : Int) (e : Ending) (w' : World) : Prop := ∃ v, e = .returned (.tuple #[v, .int .i64 c]) ∧ Sl w' 6 v (l.map Pg.row) ∧ (Off F v ∨ l = []) ∧ Below w.heap.size w w'
set_option maxHeartbeats 16000000 in
theorem refPledge_any (l : List Pg) (p : Pg) (v : Value) (w : World) (F : Nat → Prop) (hs : Sl w 6 v (l.map Pg.row)) (hoff : Off F v ∨ l = []) (hlt : ∀ k, F k → k < w.heap.size) (hl : l.length ≤ 4000) (hm1 : p.thing.size ≤ 9223372036854775807) (hm2 : p.debtor.size ≤ 9223372036854775807) (hm3 : p.cred.size ≤ 9223372036854775807) :
    Calls Try.prog 38 #[v, .agg p.cells] w (LiP w F (pledgeL l p) (pledgeC l p)) := by
  obtain ⟨i0, hi, hz, hsz, hby⟩ := info_parts infoPg
  have HI := Lib.hid (And.intro hi (And.intro hz (And.intro hsz hby)))
  clear hi hz hsz hby
  obtain ⟨a, c, rfl⟩ : ∃ a c, v = .slice a l.length c := by simpa using hs.shape
  obtain ⟨w1, hw1⟩ : ∃ x, x = w.alloc (.cells p.cells 37) := ⟨_, rfl⟩
  obtain ⟨b3, hb3⟩ : ∃ b, b = w.heap.size := ⟨_, rfl⟩
  have HB1 : Hid (Below w.heap.size w w1) := Lib.hid (by rw [hw1]; exact one_below _ _)
  have H3 : Hid (w1.heap[b3]? = some (.cells p.cells 37 (0, 0))) := Lib.hid (by rw [hw1, hb3]; exact heap_alloc_new _ _)
  have HS := Lib.hid (hs.below HB1.out (Nat.le_refl _))
  have HSRC := Lib.hid (fun W (hW : Below w1.heap.size w1 W) => src_pgs (HS.out.below hW (Nat.le_refl _)))
  have HMY := Lib.hid (fun W => refMay_any p W hm1 hm2 hm3)
  have HP3 := Lib.hid (fun W (hW : Below w1.heap.size w1 W) => pgBox_of (blk hW (lt_blk H3.out) H3.out))
  have HLN := Lib.hid hl
  have hll : l.length ≤ 9223372036854775807 := by omega
  have HK : pledgeC l p = if mayP p = true then (if l.any (isT p.thing fun x => !decide (x.debtor = p.debtor)) = true then 8 else if l.any (isT p.thing fun x => decide (x.cred = p.cred)) = true then 5 else if (p.held && l.any (isT p.thing fun x => x.held)) = true then 9 else if 4096 ≤ l.length then 7 else 0) else 1 := by
    rw [pledgeC, wrongT, any_ofT, any_ofT, any_ofT]
  have HUN : Hid (∀ cc : Int, pledgeC l p = cc → cc ≠ 0 → ∀ e w', Below w.heap.size w w' → e = .returned (.tuple #[.slice a l.length c, .int .i64 cc]) → LiP w F (pledgeL l p) (pledgeC l p) e w') := Lib.hid fun cc h1 h2 e w' hb he => by
    rw [pledgeL, h1, if_neg h2]
    exact ⟨_, he, hs.below hb (Nat.le_refl _), hoff, hb⟩
  have HYE : Hid (pledgeC l p = 0 → ∀ e w' v B, w.heap.size ≤ B → Below w.heap.size w w' → w'.ownsRow B 37 6 v (l.length + 1) (pgCells l ++ p.cells.toList) → e = .returned (.tuple #[v, .int .i64 0]) → LiP w F (pledgeL l p) (pledgeC l p) e w') := Lib.hid fun h1 e w' v B hB hb ho he => by
    rw [pledgeL, h1, if_pos rfl]
    exact ⟨v, he, own_pgs (by rw [pgCells_append]; simpa [pgCells, Pg.row] using ho) (by simp), .inl fun b hb' hx => by have h1 := (ho.lt b hb').1; have h2 := hlt b hx; omega, hb⟩
  obtain ⟨pt, pd, pc, py, pa, ph⟩ := p
  have HPT := Lib.hid (fun W hW => (HP3.out W hW).1)
  have HPD := Lib.hid (fun W hW => (HP3.out W hW).2.1)
  have HPC := Lib.hid (fun W hW => (HP3.out W hW).2.2.1)
  have HPH := Lib.hid (fun W hW => (HP3.out W hW).2.2.2.2.2)
  simp only [Pg.cells, PgBox] at hw1 HMY HP3 HPT HPD HPC HPH HK HUN HYE ⊢
  obtain ⟨g1, hg1⟩ : ∃ g, g = isT pt (fun x => !decide (x.debtor = pd)) := ⟨_, rfl⟩
  obtain ⟨g2, hg2⟩ : ∃ g, g = isT pt (fun x => decide (x.cred = pc)) := ⟨_, rfl⟩
  obtain ⟨g3, hg3⟩ : ∃ g, g = isT pt (fun x => x.held) := ⟨_, rfl⟩
  rw [← hg1, ← hg2, ← hg3] at HK
  have HG1 := Lib.hid hg1
  have HG2 := Lib.hid hg2
  have HG3 := Lib.hid hg3
  generalize mayP ⟨pt, pd, pc, py, pa, ph⟩ = B0 at *
  generalize pledgeC l ⟨pt, pd, pc, py, pa, ph⟩ = PC at *
  generalize pledgeL l ⟨pt, pd, pc, py, pa, ph⟩ = PL at *
  clear hs hl hm1 hm2 hm3 hg1 hg2 hg3 hoff hlt
  cases B0
  · have HBAD := Lib.hid (HUN.out 1 (HK.trans (by simp)) (by decide))
    clear HK
    go_enter Try.func38, Try.ntmps38
    go_wp2_with fail
    rw [← hw1, ← hb3]
    clear hw1 hb3
    go_wp2_with (first
      | ((with_reducible refine (HMY.out _).mono ?_); rintro e w2 ⟨rfl, hb2⟩; have HB2 := Lib.hid hb2; clear hb2)
      | fail)
    go_ret2
    exact HBAD.out _ _ (HB1.out.trans (HB2.out.mono HB1.out.size)) rfl
  rw [if_pos rfl] at HK
  have HQ := Lib.hid HK
  clear HK
  go_enter Try.func38, Try.ntmps38
  go_wp2_with fail
  rw [← hw1, ← hb3]
  clear hw1 hb3
  go_wp2_with (first
    | ((with_reducible refine (HMY.out _).mono ?_); rintro e w2 ⟨rfl, hb2⟩; have HB2 := Lib.hid hb2; clear hb2)
    | fail)
  go_loopw [7] (fun i wr => ∃ k : Nat, k ≤ l.length ∧ i = .int .i64 k ∧ l.any g1 = (l.drop k).any g1 ∧ Below w1.heap.size w1 wr) (fun i _ => l.length - (intOf i).toNat)
  case atStart => exact ⟨0, Nat.zero_le _, rfl, rfl, HB2.out⟩
  case round =>
    obtain ⟨k, hk, rfl, hrel, hbel⟩ := hrel
    have HBL := Lib.hid hbel
    by_cases hlt : k < l.length
    · obtain ⟨b, off, rfl, hb, hp⟩ := pg_at HS.out hlt
      have HXT := Lib.hid (fun W (hW : Below w1.heap.size w1 W) => (hp.below hb hW).1)
      have HXD := Lib.hid (fun W (hW : Below w1.heap.size w1 W) => (hp.below hb hW).2.1)
      have HK := Lib.hid hlt
      have tk : ((k : Nat) : Int) < (l.length : Int) := by omega
      have hrel : l.any g1 = ((decide (l[k].thing = pt) && !decide (l[k].debtor = pd)) || (l.drop (k + 1)).any g1) := by
        rw [hrel, any_dropG hlt, HG1.out]
        rfl
      generalize l[k].thing = xt at *
      generalize l[k].debtor = xd at *
      have s1 := str_beq xt pt
      have s2 := str_beq xd pd
      generalize decide (xt = pt) = q1 at *
      generalize decide (xd = pd) = q2 at *
      clear hb hp hbel hlt hk
      cases q1
      · have t1 : (xt.toList == pt.toList) = false := s1
        have HNX : Hid (l.any g1 = (l.drop (k + 1)).any g1) := Lib.hid (by rw [hrel]; rfl)
        clear s1 s2 hrel
        go_wp2_with fail
        refine Any.region_lit (fun
          | 0 => Any.val (.slice (some ⟨b, off, none⟩) l.length c)
          | 1 => Any.val (.int .i64 (k : Int))
          | 2 => Any.val (.pointer (some ⟨b, off + k * 6, none⟩))
          | 3 => Any.val (.pointer (some ⟨b, off + k * 6, none⟩))
          | 4 => Any.val (.string xt)
          | 5 => Any.val (.pointer (some ⟨b3, 0, none⟩))
          | 6 => Any.val (.string pt)
          | 7 => Any.val (.bool false)
          | 8 => Any.val (.bool false)
          | 9 => Any.idle
          | 10 => Any.idle
          | 11 => Any.idle
          | 12 => Any.idle
          | 13 => Any.idle
          | 14 => Any.idle
          | 15 => Any.idle
          | 16 => Any.idle
          | 17 => Any.val (.bool false)
          | _ => Any.idle) (by kernel_rfl) (by kernel_rfl) (by kernel_rfl) ?_ ?_ ?_
        · intro i _
          match i with
          | 0 => exact Any.lasts_val _
          | 1 => exact Any.lasts_val _
          | 2 => exact Any.lasts_val _
          | 3 => exact Any.lasts_val _
          | 4 => exact Any.lasts_val _
          | 5 => exact Any.lasts_val _
          | 6 => exact Any.lasts_val _
          | 7 => exact Any.lasts_val _
          | 8 => exact Any.lasts_val _
          | 9 => exact Any.lasts_idle
          | 10 => exact Any.lasts_idle
          | 11 => exact Any.lasts_idle
          | 12 => exact Any.lasts_idle
          | 13 => exact Any.lasts_idle
          | 14 => exact Any.lasts_idle
          | 15 => exact Any.lasts_idle
          | 16 => exact Any.lasts_idle
          | 17 => exact Any.lasts_val _
          | n + 18 => exact Any.lasts_idle
        · refine ⟨?_, ?_, ?_, ?_, ?_, ?_, ?_, ?_, ?_, ?_, ?_, ?_, ?_, ?_, ?_, ?_, ?_, ?_, trivial⟩
          · refine Any.owes_plain rfl fun ρ wo hs' hb hc' => ?_
            have h0 : ρ (.tmp 0) = .slice (some ⟨b, off, none⟩) l.length c := hs'.old' 0 (by kernel_rfl)
            exact Any.ok_move (Any.post_val hb rfl h0)
          · refine Any.owes_plain rfl fun ρ wo hs' hb hc' => ?_
            have h7 : ρ (.tmp 7) = .int .i64 (k : Int) := hs'.old' 7 (by kernel_rfl)
            exact Any.ok_move (Any.post_val hb rfl h7)
          · refine Any.owes_plain rfl fun ρ wo hs' hb hc' => ?_
            have h19 : ρ (.tmp 19) = .slice (some ⟨b, off, none⟩) l.length c := hs'.new' 19 0 (by kernel_rfl)
            have h20 : ρ (.tmp 20) = .int .i64 (k : Int) := hs'.new' 20 1 (by kernel_rfl)
            go_simp
            exact Any.post_val hb rfl rfl
          · refine Any.owes_plain rfl fun ρ wo hs' hb hc' => ?_
            have h21 : ρ (.tmp 21) = .pointer (some ⟨b, off + k * 6, none⟩) := hs'.new' 21 2 (by kernel_rfl)
            go_simp
            exact Any.post_val hb rfl rfl
          · refine Any.owes_plain rfl fun ρ wo hs' hb hc' => ?_
            have h22 : ρ (.tmp 22) = .pointer (some ⟨b, off + k * 6, none⟩) := hs'.new' 22 3 (by kernel_rfl)
            have c0 := HXT.out wo (HBL.out.trans ((below_undrew hb).mono HBL.out.size))
            go_simp
            exact Any.post_val hb rfl rfl
          · refine Any.owes_plain rfl fun ρ wo hs' hb hc' => ?_
            have h3 : ρ (.tmp 3) = .pointer (some ⟨b3, 0, none⟩) := hs'.old' 3 (by kernel_rfl)
            go_simp
            exact Any.post_val hb rfl rfl
          · refine Any.owes_plain rfl fun ρ wo hs' hb hc' => ?_
            have h24 : ρ (.tmp 24) = .pointer (some ⟨b3, 0, none⟩) := hs'.new' 24 5 (by kernel_rfl)
            have c0 := HPT.out wo (HBL.out.trans ((below_undrew hb).mono HBL.out.size))
            go_simp
            exact Any.post_val hb rfl rfl
          · refine Any.owes_plain rfl fun ρ wo hs' hb hc' => ?_
            have h23 : ρ (.tmp 23) = .string xt := hs'.new' 23 4 (by kernel_rfl)
            have h25 : ρ (.tmp 25) = .string pt := hs'.new' 25 6 (by kernel_rfl)
            go_simp
            exact Any.post_val hb rfl rfl
          · refine Any.owes_plain rfl fun ρ wo hs' hb hc' => ?_
            have h26 : ρ (.tmp 26) = .bool false := hs'.new' 26 7 (by kernel_rfl)
            exact Any.ok_move (Any.post_val hb rfl h26)
          · exact Any.owes_off rfl rfl (by kernel_rfl) rfl (by decide) rfl
          · exact Any.owes_off rfl rfl (by kernel_rfl) rfl (by decide) rfl
          · exact Any.owes_off rfl rfl (by kernel_rfl) rfl (by decide) rfl
          · exact Any.owes_off rfl rfl (by kernel_rfl) rfl (by decide) rfl
          · exact Any.owes_off rfl rfl (by kernel_rfl) rfl (by decide) rfl
          · exact Any.owes_off rfl rfl (by kernel_rfl) rfl (by decide) rfl
          · exact Any.owes_off rfl rfl (by kernel_rfl) rfl (by decide) rfl
          · exact Any.owes_off rfl rfl (by kernel_rfl) rfl (by decide) rfl
          · refine Any.owes_plain rfl fun ρ wo hs' hb hc' => ?_
            have h27 : ρ (.tmp 27) = .bool false := hs'.new' 27 8 (by kernel_rfl)
            go_simp
            exact Any.post_val hb rfl rfl
        intro vals w5 hb hk ha
        have h17 : vals 17 = .bool false := hk 17 (by kernel_rfl)
        have HBL := Lib.hid (HBL.out.trans (hb.mono HBL.out.size))
        clear hk ha hb
        simp only [Any.putAll]
        go_frame
        simp only [Nat.zero_add, Nat.reduceAdd]
        rw [h17]
        clear h17
        go_wp2_with fail
        go_roundw
        case rel => exact ⟨k + 1, by have := HK.out; omega, by go_num, HNX.out, HBL.out⟩
        case measure => have := HK.out; (simp [intOf]) <;> omega
      · have t1 : (xt.toList == pt.toList) = true := s1
        cases q2
        · have t2 : (xd.toList != pd.toList) = true := by simp [bne, s2]
          have t3 : (xd.toList == pd.toList) = false := s2
          have hz : PC = 8 := by rw [HQ.out, hrel]; rfl
          have HBAD := Lib.hid (HUN.out 8 hz (by decide))
          clear s1 s2 hrel hz
          go_wp2_with fail
          refine Any.region_lit (fun
            | 0 => Any.val (.slice (some ⟨b, off, none⟩) l.length c)
            | 1 => Any.val (.int .i64 (k : Int))
            | 2 => Any.val (.pointer (some ⟨b, off + k * 6, none⟩))
            | 3 => Any.val (.pointer (some ⟨b, off + k * 6, none⟩))
            | 4 => Any.val (.string xt)
            | 5 => Any.val (.pointer (some ⟨b3, 0, none⟩))
            | 6 => Any.val (.string pt)
            | 7 => Any.val (.bool true)
            | 8 => Any.val (.bool true)
            | 9 => Any.val (.slice (some ⟨b, off, none⟩) l.length c)
            | 10 => Any.val (.int .i64 (k : Int))
            | 11 => Any.val (.pointer (some ⟨b, off + k * 6, none⟩))
            | 12 => Any.val (.pointer (some ⟨b, off + k * 6 + 1, none⟩))
            | 13 => Any.val (.string xd)
            | 14 => Any.val (.pointer (some ⟨b3, 1, none⟩))
            | 15 => Any.val (.string pd)
            | 16 => Any.val (.bool true)
            | 17 => Any.val (.bool true)
            | _ => Any.idle) (by kernel_rfl) (by kernel_rfl) (by kernel_rfl) ?_ ?_ ?_
          · intro i _
            match i with
            | 0 => exact Any.lasts_val _
            | 1 => exact Any.lasts_val _
            | 2 => exact Any.lasts_val _
            | 3 => exact Any.lasts_val _
            | 4 => exact Any.lasts_val _
            | 5 => exact Any.lasts_val _
            | 6 => exact Any.lasts_val _
            | 7 => exact Any.lasts_val _
            | 8 => exact Any.lasts_val _
            | 9 => exact Any.lasts_val _
            | 10 => exact Any.lasts_val _
            | 11 => exact Any.lasts_val _
            | 12 => exact Any.lasts_val _
            | 13 => exact Any.lasts_val _
            | 14 => exact Any.lasts_val _
            | 15 => exact Any.lasts_val _
            | 16 => exact Any.lasts_val _
            | 17 => exact Any.lasts_val _
            | n + 18 => exact Any.lasts_idle
          · refine ⟨?_, ?_, ?_, ?_, ?_, ?_, ?_, ?_, ?_, ?_, ?_, ?_, ?_, ?_, ?_, ?_, ?_, ?_, trivial⟩
            · refine Any.owes_plain rfl fun ρ wo hs' hb hc' => ?_
              have h0 : ρ (.tmp 0) = .slice (some ⟨b, off, none⟩) l.length c := hs'.old' 0 (by kernel_rfl)
              exact Any.ok_move (Any.post_val hb rfl h0)
            · refine Any.owes_plain rfl fun ρ wo hs' hb hc' => ?_
              have h7 : ρ (.tmp 7) = .int .i64 (k : Int) := hs'.old' 7 (by kernel_rfl)
              exact Any.ok_move (Any.post_val hb rfl h7)
            · refine Any.owes_plain rfl fun ρ wo hs' hb hc' => ?_
              have h19 : ρ (.tmp 19) = .slice (some ⟨b, off, none⟩) l.length c := hs'.new' 19 0 (by kernel_rfl)
              have h20 : ρ (.tmp 20) = .int .i64 (k : Int) := hs'.new' 20 1 (by kernel_rfl)
              go_simp
              exact Any.post_val hb rfl rfl
            · refine Any.owes_plain rfl fun ρ wo hs' hb hc' => ?_
              have h21 : ρ (.tmp 21) = .pointer (some ⟨b, off + k * 6, none⟩) := hs'.new' 21 2 (by kernel_rfl)
              go_simp
              exact Any.post_val hb rfl rfl
            · refine Any.owes_plain rfl fun ρ wo hs' hb hc' => ?_
              have h22 : ρ (.tmp 22) = .pointer (some ⟨b, off + k * 6, none⟩) := hs'.new' 22 3 (by kernel_rfl)
              have c0 := HXT.out wo (HBL.out.trans ((below_undrew hb).mono HBL.out.size))
              go_simp
              exact Any.post_val hb rfl rfl
            · refine Any.owes_plain rfl fun ρ wo hs' hb hc' => ?_
              have h3 : ρ (.tmp 3) = .pointer (some ⟨b3, 0, none⟩) := hs'.old' 3 (by kernel_rfl)
              go_simp
              exact Any.post_val hb rfl rfl
            · refine Any.owes_plain rfl fun ρ wo hs' hb hc' => ?_
              have h24 : ρ (.tmp 24) = .pointer (some ⟨b3, 0, none⟩) := hs'.new' 24 5 (by kernel_rfl)
              have c0 := HPT.out wo (HBL.out.trans ((below_undrew hb).mono HBL.out.size))
              go_simp
              exact Any.post_val hb rfl rfl
            · refine Any.owes_plain rfl fun ρ wo hs' hb hc' => ?_
              have h23 : ρ (.tmp 23) = .string xt := hs'.new' 23 4 (by kernel_rfl)
              have h25 : ρ (.tmp 25) = .string pt := hs'.new' 25 6 (by kernel_rfl)
              go_simp
              exact Any.post_val hb rfl rfl
            · refine Any.owes_plain rfl fun ρ wo hs' hb hc' => ?_
              have h26 : ρ (.tmp 26) = .bool true := hs'.new' 26 7 (by kernel_rfl)
              exact Any.ok_move (Any.post_val hb rfl h26)
            · refine Any.owes_on rfl rfl (by kernel_rfl) rfl fun ρ wo hs' hb hc' => ?_
              have h0 : ρ (.tmp 0) = .slice (some ⟨b, off, none⟩) l.length c := hs'.old' 0 (by kernel_rfl)
              exact Any.ok_move (Any.post_val hb rfl h0)
            · refine Any.owes_on rfl rfl (by kernel_rfl) rfl fun ρ wo hs' hb hc' => ?_
              have h7 : ρ (.tmp 7) = .int .i64 (k : Int) := hs'.old' 7 (by kernel_rfl)
              exact Any.ok_move (Any.post_val hb rfl h7)
            · refine Any.owes_on rfl rfl (by kernel_rfl) rfl fun ρ wo hs' hb hc' => ?_
              have h28 : ρ (.tmp 28) = .slice (some ⟨b, off, none⟩) l.length c := hs'.new' 28 9 (by kernel_rfl)
              have h29 : ρ (.tmp 29) = .int .i64 (k : Int) := hs'.new' 29 10 (by kernel_rfl)
              go_simp
              exact Any.post_val hb rfl rfl
            · refine Any.owes_on rfl rfl (by kernel_rfl) rfl fun ρ wo hs' hb hc' => ?_
              have h30 : ρ (.tmp 30) = .pointer (some ⟨b, off + k * 6, none⟩) := hs'.new' 30 11 (by kernel_rfl)
              go_simp
              exact Any.post_val hb rfl rfl
            · refine Any.owes_on rfl rfl (by kernel_rfl) rfl fun ρ wo hs' hb hc' => ?_
              have h31 : ρ (.tmp 31) = .pointer (some ⟨b, off + k * 6 + 1, none⟩) := hs'.new' 31 12 (by kernel_rfl)
              have c0 := HXD.out wo (HBL.out.trans ((below_undrew hb).mono HBL.out.size))
              go_simp
              exact Any.post_val hb rfl rfl
            · refine Any.owes_on rfl rfl (by kernel_rfl) rfl fun ρ wo hs' hb hc' => ?_
              have h3 : ρ (.tmp 3) = .pointer (some ⟨b3, 0, none⟩) := hs'.old' 3 (by kernel_rfl)
              go_simp
              exact Any.post_val hb rfl rfl
            · refine Any.owes_on rfl rfl (by kernel_rfl) rfl fun ρ wo hs' hb hc' => ?_
              have h33 : ρ (.tmp 33) = .pointer (some ⟨b3, 1, none⟩) := hs'.new' 33 14 (by kernel_rfl)
              have c0 := HPD.out wo (HBL.out.trans ((below_undrew hb).mono HBL.out.size))
              go_simp
              exact Any.post_val hb rfl rfl
            · refine Any.owes_on rfl rfl (by kernel_rfl) rfl fun ρ wo hs' hb hc' => ?_
              have h32 : ρ (.tmp 32) = .string xd := hs'.new' 32 13 (by kernel_rfl)
              have h34 : ρ (.tmp 34) = .string pd := hs'.new' 34 15 (by kernel_rfl)
              go_simp
              exact Any.post_val hb rfl rfl
            · refine Any.owes_plain rfl fun ρ wo hs' hb hc' => ?_
              have h27 : ρ (.tmp 27) = .bool true := hs'.new' 27 8 (by kernel_rfl)
              have h35 : ρ (.tmp 35) = .bool true := hs'.new' 35 16 (by kernel_rfl)
              go_simp
              exact Any.post_val hb rfl rfl
          intro vals w5 hb hk ha
          have h17 : vals 17 = .bool true := hk 17 (by kernel_rfl)
          have HBL := Lib.hid (HBL.out.trans (hb.mono HBL.out.size))
          clear hk ha hb
          simp only [Any.putAll]
          go_frame
          simp only [Nat.zero_add, Nat.reduceAdd]
          rw [h17]
          clear h17
          go_wp2_with fail
          go_ret2
          exact HBAD.out _ _ (HB1.out.trans (HBL.out.mono HB1.out.size)) (by rfl)
        · have t2 : (xd.toList != pd.toList) = false := by simp [bne, s2]
          have t3 : (xd.toList == pd.toList) = true := s2
          have HNX : Hid (l.any g1 = (l.drop (k + 1)).any g1) := Lib.hid (by rw [hrel]; rfl)
          clear s1 s2 hrel
          go_wp2_with fail
          refine Any.region_lit (fun
            | 0 => Any.val (.slice (some ⟨b, off, none⟩) l.length c)
            | 1 => Any.val (.int .i64 (k : Int))
            | 2 => Any.val (.pointer (some ⟨b, off + k * 6, none⟩))
            | 3 => Any.val (.pointer (some ⟨b, off + k * 6, none⟩))
            | 4 => Any.val (.string xt)
            | 5 => Any.val (.pointer (some ⟨b3, 0, none⟩))
            | 6 => Any.val (.string pt)
            | 7 => Any.val (.bool true)
            | 8 => Any.val (.bool true)
            | 9 => Any.val (.slice (some ⟨b, off, none⟩) l.length c)
            | 10 => Any.val (.int .i64 (k : Int))
            | 11 => Any.val (.pointer (some ⟨b, off + k * 6, none⟩))
            | 12 => Any.val (.pointer (some ⟨b, off + k * 6 + 1, none⟩))
            | 13 => Any.val (.string xd)
            | 14 => Any.val (.pointer (some ⟨b3, 1, none⟩))
            | 15 => Any.val (.string pd)
            | 16 => Any.val (.bool false)
            | 17 => Any.val (.bool false)
            | _ => Any.idle) (by kernel_rfl) (by kernel_rfl) (by kernel_rfl) ?_ ?_ ?_
          · intro i _
            match i with
            | 0 => exact Any.lasts_val _
            | 1 => exact Any.lasts_val _
            | 2 => exact Any.lasts_val _
            | 3 => exact Any.lasts_val _
            | 4 => exact Any.lasts_val _
            | 5 => exact Any.lasts_val _
            | 6 => exact Any.lasts_val _
            | 7 => exact Any.lasts_val _
            | 8 => exact Any.lasts_val _
            | 9 => exact Any.lasts_val _
            | 10 => exact Any.lasts_val _
            | 11 => exact Any.lasts_val _
            | 12 => exact Any.lasts_val _
            | 13 => exact Any.lasts_val _
            | 14 => exact Any.lasts_val _
            | 15 => exact Any.lasts_val _
            | 16 => exact Any.lasts_val _
            | 17 => exact Any.lasts_val _
            | n + 18 => exact Any.lasts_idle
          · refine ⟨?_, ?_, ?_, ?_, ?_, ?_, ?_, ?_, ?_, ?_, ?_, ?_, ?_, ?_, ?_, ?_, ?_, ?_, trivial⟩
            · refine Any.owes_plain rfl fun ρ wo hs' hb hc' => ?_
              have h0 : ρ (.tmp 0) = .slice (some ⟨b, off, none⟩) l.length c := hs'.old' 0 (by kernel_rfl)
              exact Any.ok_move (Any.post_val hb rfl h0)
            · refine Any.owes_plain rfl fun ρ wo hs' hb hc' => ?_
              have h7 : ρ (.tmp 7) = .int .i64 (k : Int) := hs'.old' 7 (by kernel_rfl)
              exact Any.ok_move (Any.post_val hb rfl h7)
            · refine Any.owes_plain rfl fun ρ wo hs' hb hc' => ?_
              have h19 : ρ (.tmp 19) = .slice (some ⟨b, off, none⟩) l.length c := hs'.new' 19 0 (by kernel_rfl)
              have h20 : ρ (.tmp 20) = .int .i64 (k : Int) := hs'.new' 20 1 (by kernel_rfl)
              go_simp
              exact Any.post_val hb rfl rfl
            · refine Any.owes_plain rfl fun ρ wo hs' hb hc' => ?_
              have h21 : ρ (.tmp 21) = .pointer (some ⟨b, off + k * 6, none⟩) := hs'.new' 21 2 (by kernel_rfl)
              go_simp
              exact Any.post_val hb rfl rfl
            · refine Any.owes_plain rfl fun ρ wo hs' hb hc' => ?_
              have h22 : ρ (.tmp 22) = .pointer (some ⟨b, off + k * 6, none⟩) := hs'.new' 22 3 (by kernel_rfl)
              have c0 := HXT.out wo (HBL.out.trans ((below_undrew hb).mono HBL.out.size))
              go_simp
              exact Any.post_val hb rfl rfl
            · refine Any.owes_plain rfl fun ρ wo hs' hb hc' => ?_
              have h3 : ρ (.tmp 3) = .pointer (some ⟨b3, 0, none⟩) := hs'.old' 3 (by kernel_rfl)
              go_simp
              exact Any.post_val hb rfl rfl
            · refine Any.owes_plain rfl fun ρ wo hs' hb hc' => ?_
              have h24 : ρ (.tmp 24) = .pointer (some ⟨b3, 0, none⟩) := hs'.new' 24 5 (by kernel_rfl)
              have c0 := HPT.out wo (HBL.out.trans ((below_undrew hb).mono HBL.out.size))
              go_simp
              exact Any.post_val hb rfl rfl
            · refine Any.owes_plain rfl fun ρ wo hs' hb hc' => ?_
              have h23 : ρ (.tmp 23) = .string xt := hs'.new' 23 4 (by kernel_rfl)
              have h25 : ρ (.tmp 25) = .string pt := hs'.new' 25 6 (by kernel_rfl)
              go_simp
              exact Any.post_val hb rfl rfl
            · refine Any.owes_plain rfl fun ρ wo hs' hb hc' => ?_
              have h26 : ρ (.tmp 26) = .bool true := hs'.new' 26 7 (by kernel_rfl)
              exact Any.ok_move (Any.post_val hb rfl h26)
            · refine Any.owes_on rfl rfl (by kernel_rfl) rfl fun ρ wo hs' hb hc' => ?_
              have h0 : ρ (.tmp 0) = .slice (some ⟨b, off, none⟩) l.length c := hs'.old' 0 (by kernel_rfl)
              exact Any.ok_move (Any.post_val hb rfl h0)
            · refine Any.owes_on rfl rfl (by kernel_rfl) rfl fun ρ wo hs' hb hc' => ?_
              have h7 : ρ (.tmp 7) = .int .i64 (k : Int) := hs'.old' 7 (by kernel_rfl)
              exact Any.ok_move (Any.post_val hb rfl h7)
            · refine Any.owes_on rfl rfl (by kernel_rfl) rfl fun ρ wo hs' hb hc' => ?_
              have h28 : ρ (.tmp 28) = .slice (some ⟨b, off, none⟩) l.length c := hs'.new' 28 9 (by kernel_rfl)
              have h29 : ρ (.tmp 29) = .int .i64 (k : Int) := hs'.new' 29 10 (by kernel_rfl)
              go_simp
              exact Any.post_val hb rfl rfl
            · refine Any.owes_on rfl rfl (by kernel_rfl) rfl fun ρ wo hs' hb hc' => ?_
              have h30 : ρ (.tmp 30) = .pointer (some ⟨b, off + k * 6, none⟩) := hs'.new' 30 11 (by kernel_rfl)
              go_simp
              exact Any.post_val hb rfl rfl
            · refine Any.owes_on rfl rfl (by kernel_rfl) rfl fun ρ wo hs' hb hc' => ?_
              have h31 : ρ (.tmp 31) = .pointer (some ⟨b, off + k * 6 + 1, none⟩) := hs'.new' 31 12 (by kernel_rfl)
              have c0 := HXD.out wo (HBL.out.trans ((below_undrew hb).mono HBL.out.size))
              go_simp
              exact Any.post_val hb rfl rfl
            · refine Any.owes_on rfl rfl (by kernel_rfl) rfl fun ρ wo hs' hb hc' => ?_
              have h3 : ρ (.tmp 3) = .pointer (some ⟨b3, 0, none⟩) := hs'.old' 3 (by kernel_rfl)
              go_simp
              exact Any.post_val hb rfl rfl
            · refine Any.owes_on rfl rfl (by kernel_rfl) rfl fun ρ wo hs' hb hc' => ?_
              have h33 : ρ (.tmp 33) = .pointer (some ⟨b3, 1, none⟩) := hs'.new' 33 14 (by kernel_rfl)
              have c0 := HPD.out wo (HBL.out.trans ((below_undrew hb).mono HBL.out.size))
              go_simp
              exact Any.post_val hb rfl rfl
            · refine Any.owes_on rfl rfl (by kernel_rfl) rfl fun ρ wo hs' hb hc' => ?_
              have h32 : ρ (.tmp 32) = .string xd := hs'.new' 32 13 (by kernel_rfl)
              have h34 : ρ (.tmp 34) = .string pd := hs'.new' 34 15 (by kernel_rfl)
              go_simp
              exact Any.post_val hb rfl rfl
            · refine Any.owes_plain rfl fun ρ wo hs' hb hc' => ?_
              have h27 : ρ (.tmp 27) = .bool true := hs'.new' 27 8 (by kernel_rfl)
              have h35 : ρ (.tmp 35) = .bool false := hs'.new' 35 16 (by kernel_rfl)
              go_simp
              exact Any.post_val hb rfl rfl
          intro vals w5 hb hk ha
          have h17 : vals 17 = .bool false := hk 17 (by kernel_rfl)
          have HBL := Lib.hid (HBL.out.trans (hb.mono HBL.out.size))
          clear hk ha hb
          simp only [Any.putAll]
          go_frame
          simp only [Nat.zero_add, Nat.reduceAdd]
          rw [h17]
          clear h17
          go_wp2_with fail
          go_roundw
          case rel => exact ⟨k + 1, by have := HK.out; omega, by go_num, HNX.out, HBL.out⟩
          case measure => have := HK.out; (simp [intOf]) <;> omega
    · have hz1 : l.any g1 = false := by rw [hrel, List.drop_of_length_le (by omega)]; rfl
      have hq := HQ.out
      rw [hz1, if_neg (by decide)] at hq
      have HQ2 := Lib.hid hq
      clear hrel hbel hk hz1 hq
      go_wp2_with fail
      clear hlt
      generalize wr = w4 at *
      have HB4 := Lib.hid HBL.out
      go_loopw [6, 8] (fun cd i wr => ∃ k : Nat, k ≤ l.length ∧ i = .int .i64 k ∧ (l.take k).any g2 = false ∧ cd = .int .i64 (if (ph && (l.take k).any g3) = true then 9 else 0) ∧ Below w1.heap.size w1 wr) (fun _ i _ => l.length - (intOf i).toNat)
      case atStart => exact ⟨0, Nat.zero_le _, rfl, rfl, by simp, HB4.out⟩
      case round =>
        obtain ⟨k, hk, rfl, hg2, rfl, hbel⟩ := hrel
        have HBL := Lib.hid hbel
        by_cases hlt : k < l.length
        · obtain ⟨b, off, rfl, hb, hp⟩ := pg_at HS.out hlt
          have HXT := Lib.hid (fun W (hW : Below w1.heap.size w1 W) => (hp.below hb hW).1)
          have HXC := Lib.hid (fun W (hW : Below w1.heap.size w1 W) => (hp.below hb hW).2.2.1)
          have HXH := Lib.hid (fun W (hW : Below w1.heap.size w1 W) => (hp.below hb hW).2.2.2.2.2)
          have HK := Lib.hid hlt
          have tk : ((k : Nat) : Int) < (l.length : Int) := by omega
          have e2 : (l.take (k + 1)).any g2 = ((l.take k).any g2 || (decide (l[k].thing = pt) && decide (l[k].cred = pc))) := by
            rw [List.take_succ_eq_append_getElem hlt, List.any_append, HG2.out, List.any_cons, List.any_nil, Bool.or_false]; rfl
          have e3 : (l.take (k + 1)).any g3 = ((l.take k).any g3 || (decide (l[k].thing = pt) && l[k].held)) := by
            rw [List.take_succ_eq_append_getElem hlt, List.any_append, HG3.out, List.any_cons, List.any_nil, Bool.or_false]; rfl
          have e4 : l.any g2 = true ∨ (decide (l[k].thing = pt) && decide (l[k].cred = pc)) = false := by
            cases hh : (decide (l[k].thing = pt) && decide (l[k].cred = pc))
            · exact .inr rfl
            · exact .inl (List.any_eq_true.2 ⟨_, List.getElem_mem hlt, by rw [HG2.out]; exact hh⟩)
          generalize l[k].thing = xt at *
          generalize l[k].cred = xc at *
          generalize l[k].held = xh at *
          have s1 := str_beq xt pt
          have s2 := str_beq xc pc
          generalize decide (xt = pt) = q1 at *
          generalize decide (xc = pc) = q2 at *
          rw [hg2, Bool.false_or] at e2
          generalize (l.take k).any g3 = B3 at *
          clear hb hp hbel hlt hk hg2
          cases q1
          · have t1 : (xt.toList == pt.toList) = false := s1
            have HNX : Hid ((l.take (k + 1)).any g2 = false ∧ Value.int .i64 (if (ph && B3) = true then 9 else 0) = .int .i64 (if (ph && (l.take (k + 1)).any g3) = true then 9 else 0)) := Lib.hid ⟨by rw [e2]; rfl, by rw [e3]; simp⟩
            clear s1 s2 e2 e3 e4
            generalize (if (ph && B3) = true then (9 : Int) else 0) = CD at *
            go_wp2_with fail
            refine Any.region_lit (fun
              | 0 => Any.val (.slice (some ⟨b, off, none⟩) l.length c)
              | 1 => Any.val (.int .i64 (k : Int))
              | 2 => Any.val (.pointer (some ⟨b, off + k * 6, none⟩))
              | 3 => Any.val (.pointer (some ⟨b, off + k * 6, none⟩))
              | 4 => Any.val (.string xt)
              | 5 => Any.val (.pointer (some ⟨b3, 0, none⟩))
              | 6 => Any.val (.string pt)
              | 7 => Any.val (.bool true)
              | _ => Any.idle) (by kernel_rfl) (by kernel_rfl) (by kernel_rfl) ?_ ?_ ?_
            · intro i _
              match i with
              | 0 => exact Any.lasts_val _
              | 1 => exact Any.lasts_val _
              | 2 => exact Any.lasts_val _
              | 3 => exact Any.lasts_val _
              | 4 => exact Any.lasts_val _
              | 5 => exact Any.lasts_val _
              | 6 => exact Any.lasts_val _
              | 7 => exact Any.lasts_val _
              | n + 8 => exact Any.lasts_idle
            · refine ⟨?_, ?_, ?_, ?_, ?_, ?_, ?_, ?_, trivial⟩
              · refine Any.owes_plain rfl fun ρ wo hs' hb hc' => ?_
                have h0 : ρ (.tmp 0) = .slice (some ⟨b, off, none⟩) l.length c := hs'.old' 0 (by kernel_rfl)
                exact Any.ok_move (Any.post_val hb rfl h0)
              · refine Any.owes_plain rfl fun ρ wo hs' hb hc' => ?_
                have h8 : ρ (.tmp 8) = .int .i64 (k : Int) := hs'.old' 8 (by kernel_rfl)
                exact Any.ok_move (Any.post_val hb rfl h8)
              · refine Any.owes_plain rfl fun ρ wo hs' hb hc' => ?_
                have h44 : ρ (.tmp 44) = .slice (some ⟨b, off, none⟩) l.length c := hs'.new' 44 0 (by kernel_rfl)
                have h45 : ρ (.tmp 45) = .int .i64 (k : Int) := hs'.new' 45 1 (by kernel_rfl)
                go_simp
                exact Any.post_val hb rfl rfl
              · refine Any.owes_plain rfl fun ρ wo hs' hb hc' => ?_
                have h46 : ρ (.tmp 46) = .pointer (some ⟨b, off + k * 6, none⟩) := hs'.new' 46 2 (by kernel_rfl)
                go_simp
                exact Any.post_val hb rfl rfl
              · refine Any.owes_plain rfl fun ρ wo hs' hb hc' => ?_
                have h47 : ρ (.tmp 47) = .pointer (some ⟨b, off + k * 6, none⟩) := hs'.new' 47 3 (by kernel_rfl)
                have c0 := HXT.out wo (HBL.out.trans ((below_undrew hb).mono HBL.out.size))
                go_simp
                exact Any.post_val hb rfl rfl
              · refine Any.owes_plain rfl fun ρ wo hs' hb hc' => ?_
                have h3 : ρ (.tmp 3) = .pointer (some ⟨b3, 0, none⟩) := hs'.old' 3 (by kernel_rfl)
                go_simp
                exact Any.post_val hb rfl rfl
              · refine Any.owes_plain rfl fun ρ wo hs' hb hc' => ?_
                have h49 : ρ (.tmp 49) = .pointer (some ⟨b3, 0, none⟩) := hs'.new' 49 5 (by kernel_rfl)
                have c0 := HPT.out wo (HBL.out.trans ((below_undrew hb).mono HBL.out.size))
                go_simp
                exact Any.post_val hb rfl rfl
              · refine Any.owes_plain rfl fun ρ wo hs' hb hc' => ?_
                have h48 : ρ (.tmp 48) = .string xt := hs'.new' 48 4 (by kernel_rfl)
                have h50 : ρ (.tmp 50) = .string pt := hs'.new' 50 6 (by kernel_rfl)
                go_simp
                exact Any.post_val hb rfl rfl
            intro vals w5 hb hk ha
            have h7 : vals 7 = .bool true := hk 7 (by kernel_rfl)
            have HBL := Lib.hid (HBL.out.trans (hb.mono HBL.out.size))
            clear hk ha hb
            simp only [Any.putAll]
            go_frame
            simp only [Nat.zero_add, Nat.reduceAdd]
            rw [h7]
            clear h7
            go_wp2_with fail
            go_roundw
            case rel => exact ⟨k + 1, by have := HK.out; omega, by go_num, HNX.out.1, HNX.out.2, HBL.out⟩
            case measure => have := HK.out; (simp [intOf]) <;> omega
          · have t1 : (xt.toList == pt.toList) = true := s1
            cases q2
            · have t2 : (xc.toList == pc.toList) = false := s2
              have HN2 : Hid ((l.take (k + 1)).any g2 = false) := Lib.hid (by rw [e2]; rfl)
              have HN3 := Lib.hid e3
              have HX := Lib.hid (HXH.out)
              have HPX := Lib.hid (HPH.out)
              clear s1 s2 e2 e3 e4
              obtain ⟨CD, hcd⟩ : ∃ x : Int, x = if (ph && B3) = true then (9 : Int) else 0 := ⟨_, rfl⟩
              rw [← hcd]
              have HCD := Lib.hid hcd
              clear hcd
              go_wp2_with fail
              refine Any.region_lit (fun
                | 0 => Any.val (.slice (some ⟨b, off, none⟩) l.length c)
                | 1 => Any.val (.int .i64 (k : Int))
                | 2 => Any.val (.pointer (some ⟨b, off + k * 6, none⟩))
                | 3 => Any.val (.pointer (some ⟨b, off + k * 6, none⟩))
                | 4 => Any.val (.string xt)
                | 5 => Any.val (.pointer (some ⟨b3, 0, none⟩))
                | 6 => Any.val (.string pt)
                | 7 => Any.val (.bool false)
                | _ => Any.idle) (by kernel_rfl) (by kernel_rfl) (by kernel_rfl) ?_ ?_ ?_
              · intro i _
                match i with
                | 0 => exact Any.lasts_val _
                | 1 => exact Any.lasts_val _
                | 2 => exact Any.lasts_val _
                | 3 => exact Any.lasts_val _
                | 4 => exact Any.lasts_val _
                | 5 => exact Any.lasts_val _
                | 6 => exact Any.lasts_val _
                | 7 => exact Any.lasts_val _
                | n + 8 => exact Any.lasts_idle
              · refine ⟨?_, ?_, ?_, ?_, ?_, ?_, ?_, ?_, trivial⟩
                · refine Any.owes_plain rfl fun ρ wo hs' hb hc' => ?_
                  have h0 : ρ (.tmp 0) = .slice (some ⟨b, off, none⟩) l.length c := hs'.old' 0 (by kernel_rfl)
                  exact Any.ok_move (Any.post_val hb rfl h0)
                · refine Any.owes_plain rfl fun ρ wo hs' hb hc' => ?_
                  have h8 : ρ (.tmp 8) = .int .i64 (k : Int) := hs'.old' 8 (by kernel_rfl)
                  exact Any.ok_move (Any.post_val hb rfl h8)
                · refine Any.owes_plain rfl fun ρ wo hs' hb hc' => ?_
                  have h44 : ρ (.tmp 44) = .slice (some ⟨b, off, none⟩) l.length c := hs'.new' 44 0 (by kernel_rfl)
                  have h45 : ρ (.tmp 45) = .int .i64 (k : Int) := hs'.new' 45 1 (by kernel_rfl)
                  go_simp
                  exact Any.post_val hb rfl rfl
                · refine Any.owes_plain rfl fun ρ wo hs' hb hc' => ?_
                  have h46 : ρ (.tmp 46) = .pointer (some ⟨b, off + k * 6, none⟩) := hs'.new' 46 2 (by kernel_rfl)
                  go_simp
                  exact Any.post_val hb rfl rfl
                · refine Any.owes_plain rfl fun ρ wo hs' hb hc' => ?_
                  have h47 : ρ (.tmp 47) = .pointer (some ⟨b, off + k * 6, none⟩) := hs'.new' 47 3 (by kernel_rfl)
                  have c0 := HXT.out wo (HBL.out.trans ((below_undrew hb).mono HBL.out.size))
                  go_simp
                  exact Any.post_val hb rfl rfl
                · refine Any.owes_plain rfl fun ρ wo hs' hb hc' => ?_
                  have h3 : ρ (.tmp 3) = .pointer (some ⟨b3, 0, none⟩) := hs'.old' 3 (by kernel_rfl)
                  go_simp
                  exact Any.post_val hb rfl rfl
                · refine Any.owes_plain rfl fun ρ wo hs' hb hc' => ?_
                  have h49 : ρ (.tmp 49) = .pointer (some ⟨b3, 0, none⟩) := hs'.new' 49 5 (by kernel_rfl)
                  have c0 := HPT.out wo (HBL.out.trans ((below_undrew hb).mono HBL.out.size))
                  go_simp
                  exact Any.post_val hb rfl rfl
                · refine Any.owes_plain rfl fun ρ wo hs' hb hc' => ?_
                  have h48 : ρ (.tmp 48) = .string xt := hs'.new' 48 4 (by kernel_rfl)
                  have h50 : ρ (.tmp 50) = .string pt := hs'.new' 50 6 (by kernel_rfl)
                  go_simp
                  exact Any.post_val hb rfl rfl
              intro vals w5 hb hk ha
              have h7 : vals 7 = .bool false := hk 7 (by kernel_rfl)
              have HBL := Lib.hid (HBL.out.trans (hb.mono HBL.out.size))
              clear hk ha hb
              simp only [Any.putAll]
              go_frame
              simp only [Nat.zero_add, Nat.reduceAdd]
              rw [h7]
              clear h7
              go_wp2_with fail
              refine Any.region_lit (fun
                | 0 => Any.val (.slice (some ⟨b, off, none⟩) l.length c)
                | 1 => Any.val (.int .i64 (k : Int))
                | 2 => Any.val (.pointer (some ⟨b, off + k * 6, none⟩))
                | 3 => Any.val (.pointer (some ⟨b, off + k * 6 + 2, none⟩))
                | 4 => Any.val (.string xc)
                | 5 => Any.val (.pointer (some ⟨b3, 2, none⟩))
                | 6 => Any.val (.string pc)
                | 7 => Any.val (.bool false)
                | _ => Any.idle) (by kernel_rfl) (by kernel_rfl) (by kernel_rfl) ?_ ?_ ?_
              · intro i _
                match i with
                | 0 => exact Any.lasts_val _
                | 1 => exact Any.lasts_val _
                | 2 => exact Any.lasts_val _
                | 3 => exact Any.lasts_val _
                | 4 => exact Any.lasts_val _
                | 5 => exact Any.lasts_val _
                | 6 => exact Any.lasts_val _
                | 7 => exact Any.lasts_val _
                | n + 8 => exact Any.lasts_idle
              · refine ⟨?_, ?_, ?_, ?_, ?_, ?_, ?_, ?_, trivial⟩
                · refine Any.owes_plain rfl fun ρ wo hs' hb hc' => ?_
                  have h0 : ρ (.tmp 0) = .slice (some ⟨b, off, none⟩) l.length c := hs'.old' 0 (by kernel_rfl)
                  exact Any.ok_move (Any.post_val hb rfl h0)
                · refine Any.owes_plain rfl fun ρ wo hs' hb hc' => ?_
                  have h8 : ρ (.tmp 8) = .int .i64 (k : Int) := hs'.old' 8 (by kernel_rfl)
                  exact Any.ok_move (Any.post_val hb rfl h8)
                · refine Any.owes_plain rfl fun ρ wo hs' hb hc' => ?_
                  have h52 : ρ (.tmp 52) = .slice (some ⟨b, off, none⟩) l.length c := hs'.new' 52 0 (by kernel_rfl)
                  have h53 : ρ (.tmp 53) = .int .i64 (k : Int) := hs'.new' 53 1 (by kernel_rfl)
                  go_simp
                  exact Any.post_val hb rfl rfl
                · refine Any.owes_plain rfl fun ρ wo hs' hb hc' => ?_
                  have h54 : ρ (.tmp 54) = .pointer (some ⟨b, off + k * 6, none⟩) := hs'.new' 54 2 (by kernel_rfl)
                  go_simp
                  exact Any.post_val hb rfl rfl
                · refine Any.owes_plain rfl fun ρ wo hs' hb hc' => ?_
                  have h55 : ρ (.tmp 55) = .pointer (some ⟨b, off + k * 6 + 2, none⟩) := hs'.new' 55 3 (by kernel_rfl)
                  have c0 := HXC.out wo (HBL.out.trans ((below_undrew hb).mono HBL.out.size))
                  go_simp
                  exact Any.post_val hb rfl rfl
                · refine Any.owes_plain rfl fun ρ wo hs' hb hc' => ?_
                  have h3 : ρ (.tmp 3) = .pointer (some ⟨b3, 0, none⟩) := hs'.old' 3 (by kernel_rfl)
                  go_simp
                  exact Any.post_val hb rfl rfl
                · refine Any.owes_plain rfl fun ρ wo hs' hb hc' => ?_
                  have h57 : ρ (.tmp 57) = .pointer (some ⟨b3, 2, none⟩) := hs'.new' 57 5 (by kernel_rfl)
                  have c0 := HPC.out wo (HBL.out.trans ((below_undrew hb).mono HBL.out.size))
                  go_simp
                  exact Any.post_val hb rfl rfl
                · refine Any.owes_plain rfl fun ρ wo hs' hb hc' => ?_
                  have h56 : ρ (.tmp 56) = .string xc := hs'.new' 56 4 (by kernel_rfl)
                  have h58 : ρ (.tmp 58) = .string pc := hs'.new' 58 6 (by kernel_rfl)
                  go_simp
                  exact Any.post_val hb rfl rfl
              intro vals w5 hb hk ha
              have h7 : vals 7 = .bool false := hk 7 (by kernel_rfl)
              have HBL := Lib.hid (HBL.out.trans (hb.mono HBL.out.size))
              clear hk ha hb
              simp only [Any.putAll]
              go_frame
              simp only [Nat.zero_add, Nat.reduceAdd]
              rw [h7]
              clear h7
              have d5 := HXH.out w5 HBL.out
              have p5 := HPH.out w5 HBL.out
              cases xh
              case false =>
                cases ph
                case false =>
                  go_wp2_with fail
                  go_roundw
                  case rel => exact ⟨k + 1, by have := HK.out; omega, by go_num, HN2.out, by rw [HN3.out]; simp [HCD.out], HBL.out⟩
                  case measure => have := HK.out; (simp [intOf]) <;> omega
                case true =>
                  go_wp2_with fail
                  go_roundw
                  case rel => exact ⟨k + 1, by have := HK.out; omega, by go_num, HN2.out, by rw [HN3.out]; simp [HCD.out], HBL.out⟩
                  case measure => have := HK.out; (simp [intOf]) <;> omega
              case true =>
                cases ph
                case false =>
                  go_wp2_with fail
                  go_roundw
                  case rel => exact ⟨k + 1, by have := HK.out; omega, by go_num, HN2.out, by rw [HN3.out]; simp [HCD.out], HBL.out⟩
                  case measure => have := HK.out; (simp [intOf]) <;> omega
                case true =>
                  go_wp2_with fail
                  go_roundw
                  case rel => exact ⟨k + 1, by have := HK.out; omega, by go_num, HN2.out, by rw [HN3.out]; simp, HBL.out⟩
                  case measure => have := HK.out; (simp [intOf]) <;> omega
            · have t2 : (xc.toList == pc.toList) = true := s2
              have hz : PC = 5 := by
                rw [HQ2.out]
                rcases e4 with h | h
                · rw [h]; rfl
                · cases h
              have HBAD := Lib.hid (HUN.out 5 hz (by decide))
              clear s1 s2 e2 e3 e4 hz
              generalize (if (ph && B3) = true then (9 : Int) else 0) = CD at *
              go_wp2_with fail
              refine Any.region_lit (fun
                | 0 => Any.val (.slice (some ⟨b, off, none⟩) l.length c)
                | 1 => Any.val (.int .i64 (k : Int))
                | 2 => Any.val (.pointer (some ⟨b, off + k * 6, none⟩))
                | 3 => Any.val (.pointer (some ⟨b, off + k * 6, none⟩))
                | 4 => Any.val (.string xt)
                | 5 => Any.val (.pointer (some ⟨b3, 0, none⟩))
                | 6 => Any.val (.string pt)
                | 7 => Any.val (.bool false)
                | _ => Any.idle) (by kernel_rfl) (by kernel_rfl) (by kernel_rfl) ?_ ?_ ?_
              · intro i _
                match i with
                | 0 => exact Any.lasts_val _
                | 1 => exact Any.lasts_val _
                | 2 => exact Any.lasts_val _
                | 3 => exact Any.lasts_val _
                | 4 => exact Any.lasts_val _
                | 5 => exact Any.lasts_val _
                | 6 => exact Any.lasts_val _
                | 7 => exact Any.lasts_val _
                | n + 8 => exact Any.lasts_idle
              · refine ⟨?_, ?_, ?_, ?_, ?_, ?_, ?_, ?_, trivial⟩
                · refine Any.owes_plain rfl fun ρ wo hs' hb hc' => ?_
                  have h0 : ρ (.tmp 0) = .slice (some ⟨b, off, none⟩) l.length c := hs'.old' 0 (by kernel_rfl)
                  exact Any.ok_move (Any.post_val hb rfl h0)
                · refine Any.owes_plain rfl fun ρ wo hs' hb hc' => ?_
                  have h8 : ρ (.tmp 8) = .int .i64 (k : Int) := hs'.old' 8 (by kernel_rfl)
                  exact Any.ok_move (Any.post_val hb rfl h8)
                · refine Any.owes_plain rfl fun ρ wo hs' hb hc' => ?_
                  have h44 : ρ (.tmp 44) = .slice (some ⟨b, off, none⟩) l.length c := hs'.new' 44 0 (by kernel_rfl)
                  have h45 : ρ (.tmp 45) = .int .i64 (k : Int) := hs'.new' 45 1 (by kernel_rfl)
                  go_simp
                  exact Any.post_val hb rfl rfl
                · refine Any.owes_plain rfl fun ρ wo hs' hb hc' => ?_
                  have h46 : ρ (.tmp 46) = .pointer (some ⟨b, off + k * 6, none⟩) := hs'.new' 46 2 (by kernel_rfl)
                  go_simp
                  exact Any.post_val hb rfl rfl
                · refine Any.owes_plain rfl fun ρ wo hs' hb hc' => ?_
                  have h47 : ρ (.tmp 47) = .pointer (some ⟨b, off + k * 6, none⟩) := hs'.new' 47 3 (by kernel_rfl)
                  have c0 := HXT.out wo (HBL.out.trans ((below_undrew hb).mono HBL.out.size))
                  go_simp
                  exact Any.post_val hb rfl rfl
                · refine Any.owes_plain rfl fun ρ wo hs' hb hc' => ?_
                  have h3 : ρ (.tmp 3) = .pointer (some ⟨b3, 0, none⟩) := hs'.old' 3 (by kernel_rfl)
                  go_simp
                  exact Any.post_val hb rfl rfl
                · refine Any.owes_plain rfl fun ρ wo hs' hb hc' => ?_
                  have h49 : ρ (.tmp 49) = .pointer (some ⟨b3, 0, none⟩) := hs'.new' 49 5 (by kernel_rfl)
                  have c0 := HPT.out wo (HBL.out.trans ((below_undrew hb).mono HBL.out.size))
                  go_simp
                  exact Any.post_val hb rfl rfl
                · refine Any.owes_plain rfl fun ρ wo hs' hb hc' => ?_
                  have h48 : ρ (.tmp 48) = .string xt := hs'.new' 48 4 (by kernel_rfl)
                  have h50 : ρ (.tmp 50) = .string pt := hs'.new' 50 6 (by kernel_rfl)
                  go_simp
                  exact Any.post_val hb rfl rfl
              intro vals w5 hb hk ha
              have h7 : vals 7 = .bool false := hk 7 (by kernel_rfl)
              have HBL := Lib.hid (HBL.out.trans (hb.mono HBL.out.size))
              clear hk ha hb
              simp only [Any.putAll]
              go_frame
              simp only [Nat.zero_add, Nat.reduceAdd]
              rw [h7]
              clear h7
              go_wp2_with fail
              refine Any.region_lit (fun
                | 0 => Any.val (.slice (some ⟨b, off, none⟩) l.length c)
                | 1 => Any.val (.int .i64 (k : Int))
                | 2 => Any.val (.pointer (some ⟨b, off + k * 6, none⟩))
                | 3 => Any.val (.pointer (some ⟨b, off + k * 6 + 2, none⟩))
                | 4 => Any.val (.string xc)
                | 5 => Any.val (.pointer (some ⟨b3, 2, none⟩))
                | 6 => Any.val (.string pc)
                | 7 => Any.val (.bool true)
                | _ => Any.idle) (by kernel_rfl) (by kernel_rfl) (by kernel_rfl) ?_ ?_ ?_
              · intro i _
                match i with
                | 0 => exact Any.lasts_val _
                | 1 => exact Any.lasts_val _
                | 2 => exact Any.lasts_val _
                | 3 => exact Any.lasts_val _
                | 4 => exact Any.lasts_val _
                | 5 => exact Any.lasts_val _
                | 6 => exact Any.lasts_val _
                | 7 => exact Any.lasts_val _
                | n + 8 => exact Any.lasts_idle
              · refine ⟨?_, ?_, ?_, ?_, ?_, ?_, ?_, ?_, trivial⟩
                · refine Any.owes_plain rfl fun ρ wo hs' hb hc' => ?_
                  have h0 : ρ (.tmp 0) = .slice (some ⟨b, off, none⟩) l.length c := hs'.old' 0 (by kernel_rfl)
                  exact Any.ok_move (Any.post_val hb rfl h0)
                · refine Any.owes_plain rfl fun ρ wo hs' hb hc' => ?_
                  have h8 : ρ (.tmp 8) = .int .i64 (k : Int) := hs'.old' 8 (by kernel_rfl)
                  exact Any.ok_move (Any.post_val hb rfl h8)
                · refine Any.owes_plain rfl fun ρ wo hs' hb hc' => ?_
                  have h52 : ρ (.tmp 52) = .slice (some ⟨b, off, none⟩) l.length c := hs'.new' 52 0 (by kernel_rfl)
                  have h53 : ρ (.tmp 53) = .int .i64 (k : Int) := hs'.new' 53 1 (by kernel_rfl)
                  go_simp
                  exact Any.post_val hb rfl rfl
                · refine Any.owes_plain rfl fun ρ wo hs' hb hc' => ?_
                  have h54 : ρ (.tmp 54) = .pointer (some ⟨b, off + k * 6, none⟩) := hs'.new' 54 2 (by kernel_rfl)
                  go_simp
                  exact Any.post_val hb rfl rfl
                · refine Any.owes_plain rfl fun ρ wo hs' hb hc' => ?_
                  have h55 : ρ (.tmp 55) = .pointer (some ⟨b, off + k * 6 + 2, none⟩) := hs'.new' 55 3 (by kernel_rfl)
                  have c0 := HXC.out wo (HBL.out.trans ((below_undrew hb).mono HBL.out.size))
                  go_simp
                  exact Any.post_val hb rfl rfl
                · refine Any.owes_plain rfl fun ρ wo hs' hb hc' => ?_
                  have h3 : ρ (.tmp 3) = .pointer (some ⟨b3, 0, none⟩) := hs'.old' 3 (by kernel_rfl)
                  go_simp
                  exact Any.post_val hb rfl rfl
                · refine Any.owes_plain rfl fun ρ wo hs' hb hc' => ?_
                  have h57 : ρ (.tmp 57) = .pointer (some ⟨b3, 2, none⟩) := hs'.new' 57 5 (by kernel_rfl)
                  have c0 := HPC.out wo (HBL.out.trans ((below_undrew hb).mono HBL.out.size))
                  go_simp
                  exact Any.post_val hb rfl rfl
                · refine Any.owes_plain rfl fun ρ wo hs' hb hc' => ?_
                  have h56 : ρ (.tmp 56) = .string xc := hs'.new' 56 4 (by kernel_rfl)
                  have h58 : ρ (.tmp 58) = .string pc := hs'.new' 58 6 (by kernel_rfl)
                  go_simp
                  exact Any.post_val hb rfl rfl
              intro vals w5 hb hk ha
              have h7 : vals 7 = .bool true := hk 7 (by kernel_rfl)
              have HBL := Lib.hid (HBL.out.trans (hb.mono HBL.out.size))
              clear hk ha hb
              simp only [Any.putAll]
              go_frame
              simp only [Nat.zero_add, Nat.reduceAdd]
              rw [h7]
              clear h7
              go_wp2_with fail
              go_ret2
              exact HBAD.out _ _ (HB1.out.trans (HBL.out.mono HB1.out.size)) (by rfl)
        · have h2 : l.any g2 = false := by rw [← hg2, List.take_of_length_le (by omega)]
          have h3 : (l.take k).any g3 = l.any g3 := by rw [List.take_of_length_le (by omega)]
          rw [h3]
          have hq := HQ2.out
          rw [h2, if_neg (by decide)] at hq
          have HQ3 := Lib.hid hq
          clear hq hg2 h2 h3 hbel hk HQ HQ2
          have HBL := Lib.hid HBL.out
          generalize wr = w6 at *
          generalize l.any g3 = B3 at *
          cases ph
          case false =>
            have hnl : ¬ 4096 ≤ l.length := by have := HLN.out; omega
            have tl1 : decide ((4096 : Int) ≤ (l.length : Int)) = false := decide_eq_false (by omega)
            have tl2 : decide (4096 ≤ l.length) = false := decide_eq_false hnl
            have HGOOD := Lib.hid (HYE.out (HQ3.out.trans (by simp [hnl])))
            have HL : Hid (l.length + 1 ≤ maxLen ∧ (l.length + 1) * 72 ≤ 140737488355328) := Lib.hid (by have := HLN.out; simp only [maxLen]; omega)
            clear HQ3 hnl
            go_wp2_with fail
            refine Any.region_lit (fun
              | 0 => Any.row w6.heap.size 37 6 (0) ([]) []
              | 1 => Any.val (.slice a l.length c)
              | 2 => Any.row w6.heap.size 37 6 (l.length) (pgCells l) [0]
              | 3 => Any.val (.agg #[.string pt, .string pd, .string pc, .int .i64 py, .int .i64 pa, .bool false])
              | 4 => Any.made 37 1 #[.string pt, .string pd, .string pc, .int .i64 py, .int .i64 pa, .bool false]
              | 5 => Any.row w6.heap.size 37 6 (l.length + 1) (pgCells l ++ [.string pt, .string pd, .string pc, .int .i64 py, .int .i64 pa, .bool false]) [2]
              | 6 => Any.row w6.heap.size 37 6 (l.length + 1) (pgCells l ++ [.string pt, .string pd, .string pc, .int .i64 py, .int .i64 pa, .bool false]) [5]
              | 7 => Any.val (.int .i64 0)
              | _ => Any.idle) (by kernel_rfl) (by kernel_rfl) (by kernel_rfl) ?_ ?_ ?_
            · intro i _
              match i with
              | 0 => exact Any.lasts_row _ _ _ _ _ _
              | 1 => exact Any.lasts_val _
              | 2 => exact Any.lasts_row _ _ _ _ _ _
              | 3 => exact Any.lasts_val _
              | 4 => exact Any.lasts_made _ _ _
              | 5 => exact Any.lasts_row _ _ _ _ _ _
              | 6 => exact Any.lasts_row _ _ _ _ _ _
              | 7 => exact Any.lasts_val _
              | n + 8 => exact Any.lasts_idle
            · refine ⟨?_, ?_, ?_, ?_, ?_, ?_, ?_, ?_, trivial⟩
              · refine Any.owes_plain rfl fun ρ wo hs' hb hc' => ?_
                go_simp
                exact Any.post_new hb (own_empty (show w6.heap.size ≤ wo.heap.size from hb.size)) (one_below _ _) (by intro b hb'; obtain rfl : wo.heap.size = b := Option.some.inj hb'; exact Nat.le_refl _)
              · refine Any.owes_plain rfl fun ρ wo hs' hb hc' => ?_
                have h0 : ρ (.tmp 0) = .slice a l.length c := hs'.old' 0 (by kernel_rfl)
                exact Any.ok_move (Any.post_val hb rfl h0)
              · refine Any.owes_plain rfl fun ρ wo hs' hb hc' => ?_
                have h82 : ρ (.tmp 82) = .slice a l.length c := hs'.new' 82 1 (by kernel_rfl)
                have h8 : wo.ownsRow w6.heap.size 37 6 (ρ (.tmp 81)) 0 [] := hs'.new' 81 0 (by kernel_rfl)
                have hsrc : Src wo 6 (ρ (.tmp 82)) l.length (pgCells l) := by rw [h82]; exact HSRC.out wo (HBL.out.trans ((below_undrew hb).mono HBL.out.size))
                refine Any.ok_append_own Try.underlying26 HI.out.1 HI.out.2.1 HI.out.2.2.1 HI.out.2.2.2 rfl (by decide) h8 hsrc (pgCells_one _) (by have := HL.out.1; omega) (by have := HL.out.2; omega) (show w6.heap.size ≤ wo.heap.size from hb.size) fun v' w' h1 h2 h3 => ?_
                rw [List.nil_append, Nat.zero_add] at h1
                exact Any.post_take hb h1 h2 rfl ⟨_, _, _, rfl⟩ rfl rfl (Nat.le_refl _) h3 (fun b hb => (h8.lt b hb).1)
              · refine Any.owes_plain rfl fun ρ wo hs' hb hc' => ?_
                have h3 : ρ (.tmp 3) = .pointer (some ⟨b3, 0, none⟩) := hs'.old' 3 (by kernel_rfl)
                have c0 := (HP3.out wo (HBL.out.trans ((below_undrew hb).mono HBL.out.size))).1
                have c1 := (HP3.out wo (HBL.out.trans ((below_undrew hb).mono HBL.out.size))).2.1
                have c2 := (HP3.out wo (HBL.out.trans ((below_undrew hb).mono HBL.out.size))).2.2.1
                have c3 := (HP3.out wo (HBL.out.trans ((below_undrew hb).mono HBL.out.size))).2.2.2.1
                have c4 := (HP3.out wo (HBL.out.trans ((below_undrew hb).mono HBL.out.size))).2.2.2.2.1
                have c5 := (HP3.out wo (HBL.out.trans ((below_undrew hb).mono HBL.out.size))).2.2.2.2.2
                go_simp
                exact Any.post_val hb rfl rfl
              · refine Any.owes_plain rfl fun ρ wo hs' hb hc' => ?_
                have h84 : ρ (.tmp 84) = .agg #[.string pt, .string pd, .string pc, .int .i64 py, .int .i64 pa, .bool false] := hs'.new' 84 3 (by kernel_rfl)
                go_simp
                exact Any.post_new hb ⟨_, rfl, heap_alloc_new _ _⟩ (one_below _ _) (by intro b hb'; obtain rfl : wo.heap.size = b := Option.some.inj hb'; exact Nat.le_refl _)
              · refine Any.owes_plain rfl fun ρ wo hs' hb hc' => ?_
                have h8 : wo.ownsRow w6.heap.size 37 6 (ρ (.tmp 83)) (l.length) (pgCells l) := hs'.new' 83 2 (by kernel_rfl)
                obtain ⟨g, hg, hgb⟩ := hs'.new' 85 4 (by kernel_rfl)
                have hsrc : Src wo 6 (ρ (.tmp 85)) 1 [.string pt, .string pd, .string pc, .int .i64 py, .int .i64 pa, .bool false] := by rw [hg]; exact src_block hgb rfl
                refine Any.ok_append_own Try.underlying26 HI.out.1 HI.out.2.1 HI.out.2.2.1 HI.out.2.2.2 rfl (by decide) h8 hsrc (pg_one ⟨pt, pd, pc, py, pa, false⟩) HL.out.1 HL.out.2 (show w6.heap.size ≤ wo.heap.size from hb.size) fun v' w' h1 h2 h3 => ?_
                exact Any.post_take hb h1 h2 rfl ⟨_, _, _, rfl⟩ rfl rfl (Nat.le_refl _) h3 (fun b hb => (h8.lt b hb).1)
              · refine Any.owes_plain rfl fun ρ wo hs' hb hc' => ?_
                have h8 : wo.ownsRow w6.heap.size 37 6 (ρ (.tmp 86)) (l.length + 1) (pgCells l ++ [.string pt, .string pd, .string pc, .int .i64 py, .int .i64 pa, .bool false]) := hs'.new' 86 5 (by kernel_rfl)
                exact Any.ok_assign (Any.post_pass hb rfl ⟨_, rfl⟩ rfl rfl h8)
              · refine Any.owes_plain rfl fun ρ wo hs' hb hc' => ?_
                exact Any.ok_assign (Any.post_val hb rfl (hc' _))
            intro vals w7 hb hk ha
            have HB68 := Lib.hid HBL.out.size
            have o6 : w7.ownsRow w6.heap.size 37 6 (vals 6) (l.length + 1) (pgCells l ++ [.string pt, .string pd, .string pc, .int .i64 py, .int .i64 pa, .bool false]) := hk 6 (by kernel_rfl)
            have h7 : vals 7 = .int .i64 0 := hk 7 (by kernel_rfl)
            have HBL := Lib.hid (HBL.out.trans (hb.mono HBL.out.size))
            clear hk ha hb
            simp only [Any.putAll]
            go_frame
            simp only [Nat.zero_add, Nat.reduceAdd]
            rw [h7]
            generalize vals 6 = v7 at *
            have HO := Lib.hid o6
            clear o6 h7
            go_wp2_with fail
            go_ret2
            exact HGOOD.out _ _ _ _ (Nat.le_trans HB1.out.size HB68.out) (HB1.out.trans (HBL.out.mono HB1.out.size)) HO.out (by rfl)
          case true =>
            cases B3
            case false =>
              have hnl : ¬ 4096 ≤ l.length := by have := HLN.out; omega
              have tl1 : decide ((4096 : Int) ≤ (l.length : Int)) = false := decide_eq_false (by omega)
              have tl2 : decide (4096 ≤ l.length) = false := decide_eq_false hnl
              have HGOOD := Lib.hid (HYE.out (HQ3.out.trans (by simp [hnl])))
              have HL : Hid (l.length + 1 ≤ maxLen ∧ (l.length + 1) * 72 ≤ 140737488355328) := Lib.hid (by have := HLN.out; simp only [maxLen]; omega)
              clear HQ3 hnl
              go_wp2_with fail
              refine Any.region_lit (fun
                | 0 => Any.row w6.heap.size 37 6 (0) ([]) []
                | 1 => Any.val (.slice a l.length c)
                | 2 => Any.row w6.heap.size 37 6 (l.length) (pgCells l) [0]
                | 3 => Any.val (.agg #[.string pt, .string pd, .string pc, .int .i64 py, .int .i64 pa, .bool true])
                | 4 => Any.made 37 1 #[.string pt, .string pd, .string pc, .int .i64 py, .int .i64 pa, .bool true]
                | 5 => Any.row w6.heap.size 37 6 (l.length + 1) (pgCells l ++ [.string pt, .string pd, .string pc, .int .i64 py, .int .i64 pa, .bool true]) [2]
                | 6 => Any.row w6.heap.size 37 6 (l.length + 1) (pgCells l ++ [.string pt, .string pd, .string pc, .int .i64 py, .int .i64 pa, .bool true]) [5]
                | 7 => Any.val (.int .i64 0)
                | _ => Any.idle) (by kernel_rfl) (by kernel_rfl) (by kernel_rfl) ?_ ?_ ?_
              · intro i _
                match i with
                | 0 => exact Any.lasts_row _ _ _ _ _ _
                | 1 => exact Any.lasts_val _
                | 2 => exact Any.lasts_row _ _ _ _ _ _
                | 3 => exact Any.lasts_val _
                | 4 => exact Any.lasts_made _ _ _
                | 5 => exact Any.lasts_row _ _ _ _ _ _
                | 6 => exact Any.lasts_row _ _ _ _ _ _
                | 7 => exact Any.lasts_val _
                | n + 8 => exact Any.lasts_idle
              · refine ⟨?_, ?_, ?_, ?_, ?_, ?_, ?_, ?_, trivial⟩
                · refine Any.owes_plain rfl fun ρ wo hs' hb hc' => ?_
                  go_simp
                  exact Any.post_new hb (own_empty (show w6.heap.size ≤ wo.heap.size from hb.size)) (one_below _ _) (by intro b hb'; obtain rfl : wo.heap.size = b := Option.some.inj hb'; exact Nat.le_refl _)
                · refine Any.owes_plain rfl fun ρ wo hs' hb hc' => ?_
                  have h0 : ρ (.tmp 0) = .slice a l.length c := hs'.old' 0 (by kernel_rfl)
                  exact Any.ok_move (Any.post_val hb rfl h0)
                · refine Any.owes_plain rfl fun ρ wo hs' hb hc' => ?_
                  have h82 : ρ (.tmp 82) = .slice a l.length c := hs'.new' 82 1 (by kernel_rfl)
                  have h8 : wo.ownsRow w6.heap.size 37 6 (ρ (.tmp 81)) 0 [] := hs'.new' 81 0 (by kernel_rfl)
                  have hsrc : Src wo 6 (ρ (.tmp 82)) l.length (pgCells l) := by rw [h82]; exact HSRC.out wo (HBL.out.trans ((below_undrew hb).mono HBL.out.size))
                  refine Any.ok_append_own Try.underlying26 HI.out.1 HI.out.2.1 HI.out.2.2.1 HI.out.2.2.2 rfl (by decide) h8 hsrc (pgCells_one _) (by have := HL.out.1; omega) (by have := HL.out.2; omega) (show w6.heap.size ≤ wo.heap.size from hb.size) fun v' w' h1 h2 h3 => ?_
                  rw [List.nil_append, Nat.zero_add] at h1
                  exact Any.post_take hb h1 h2 rfl ⟨_, _, _, rfl⟩ rfl rfl (Nat.le_refl _) h3 (fun b hb => (h8.lt b hb).1)
                · refine Any.owes_plain rfl fun ρ wo hs' hb hc' => ?_
                  have h3 : ρ (.tmp 3) = .pointer (some ⟨b3, 0, none⟩) := hs'.old' 3 (by kernel_rfl)
                  have c0 := (HP3.out wo (HBL.out.trans ((below_undrew hb).mono HBL.out.size))).1
                  have c1 := (HP3.out wo (HBL.out.trans ((below_undrew hb).mono HBL.out.size))).2.1
                  have c2 := (HP3.out wo (HBL.out.trans ((below_undrew hb).mono HBL.out.size))).2.2.1
                  have c3 := (HP3.out wo (HBL.out.trans ((below_undrew hb).mono HBL.out.size))).2.2.2.1
                  have c4 := (HP3.out wo (HBL.out.trans ((below_undrew hb).mono HBL.out.size))).2.2.2.2.1
                  have c5 := (HP3.out wo (HBL.out.trans ((below_undrew hb).mono HBL.out.size))).2.2.2.2.2
                  go_simp
                  exact Any.post_val hb rfl rfl
                · refine Any.owes_plain rfl fun ρ wo hs' hb hc' => ?_
                  have h84 : ρ (.tmp 84) = .agg #[.string pt, .string pd, .string pc, .int .i64 py, .int .i64 pa, .bool true] := hs'.new' 84 3 (by kernel_rfl)
                  go_simp
                  exact Any.post_new hb ⟨_, rfl, heap_alloc_new _ _⟩ (one_below _ _) (by intro b hb'; obtain rfl : wo.heap.size = b := Option.some.inj hb'; exact Nat.le_refl _)
                · refine Any.owes_plain rfl fun ρ wo hs' hb hc' => ?_
                  have h8 : wo.ownsRow w6.heap.size 37 6 (ρ (.tmp 83)) (l.length) (pgCells l) := hs'.new' 83 2 (by kernel_rfl)
                  obtain ⟨g, hg, hgb⟩ := hs'.new' 85 4 (by kernel_rfl)
                  have hsrc : Src wo 6 (ρ (.tmp 85)) 1 [.string pt, .string pd, .string pc, .int .i64 py, .int .i64 pa, .bool true] := by rw [hg]; exact src_block hgb rfl
                  refine Any.ok_append_own Try.underlying26 HI.out.1 HI.out.2.1 HI.out.2.2.1 HI.out.2.2.2 rfl (by decide) h8 hsrc (pg_one ⟨pt, pd, pc, py, pa, true⟩) HL.out.1 HL.out.2 (show w6.heap.size ≤ wo.heap.size from hb.size) fun v' w' h1 h2 h3 => ?_
                  exact Any.post_take hb h1 h2 rfl ⟨_, _, _, rfl⟩ rfl rfl (Nat.le_refl _) h3 (fun b hb => (h8.lt b hb).1)
                · refine Any.owes_plain rfl fun ρ wo hs' hb hc' => ?_
                  have h8 : wo.ownsRow w6.heap.size 37 6 (ρ (.tmp 86)) (l.length + 1) (pgCells l ++ [.string pt, .string pd, .string pc, .int .i64 py, .int .i64 pa, .bool true]) := hs'.new' 86 5 (by kernel_rfl)
                  exact Any.ok_assign (Any.post_pass hb rfl ⟨_, rfl⟩ rfl rfl h8)
                · refine Any.owes_plain rfl fun ρ wo hs' hb hc' => ?_
                  exact Any.ok_assign (Any.post_val hb rfl (hc' _))
              intro vals w7 hb hk ha
              have HB68 := Lib.hid HBL.out.size
              have o6 : w7.ownsRow w6.heap.size 37 6 (vals 6) (l.length + 1) (pgCells l ++ [.string pt, .string pd, .string pc, .int .i64 py, .int .i64 pa, .bool true]) := hk 6 (by kernel_rfl)
              have h7 : vals 7 = .int .i64 0 := hk 7 (by kernel_rfl)
              have HBL := Lib.hid (HBL.out.trans (hb.mono HBL.out.size))
              clear hk ha hb
              simp only [Any.putAll]
              go_frame
              simp only [Nat.zero_add, Nat.reduceAdd]
              rw [h7]
              generalize vals 6 = v7 at *
              have HO := Lib.hid o6
              clear o6 h7
              go_wp2_with fail
              go_ret2
              exact HGOOD.out _ _ _ _ (Nat.le_trans HB1.out.size HB68.out) (HB1.out.trans (HBL.out.mono HB1.out.size)) HO.out (by rfl)
            case true =>
              have HBAD := Lib.hid (HUN.out 9 (HQ3.out.trans (by rfl)) (by decide))
              clear HQ3
              go_wp2_with fail
              go_ret2
              exact HBAD.out _ _ (HB1.out.trans (HBL.out.mono HB1.out.size)) (by rfl)
end Go.Proofs.Ytnlfhncbnfmccaa.Sc
