/- Are boxes a packing: by the reference. -/
import Derived.Test.YtgnfdplphpejaaaGreatDoorPkPlC12
import Derived.Test.YtgnfdplphpejaaaGreatDoorRig12
import Derived.Test.YtgnfdplphpejaaaGreatDoorRefMkC12
namespace Go.Proofs.YtgnfdplphpejaaaGreatDoor.Sc
open Go Go.RowKit
set_option maxRecDepth 100000

theorem dup_split : ∀ (G : List ByteArray), ¬ G.Nodup → ∃ A n B, G = A ++ n :: B ∧ n ∈ A ++ B
  | [], h => absurd List.nodup_nil h
  | x :: r, h => by
    by_cases hx : x ∈ r
    · exact ⟨[], x, r, rfl, hx⟩
    · have hr : ¬ r.Nodup := fun hn => h (List.nodup_cons.2 ⟨hx, hn⟩)
      obtain ⟨A, n, B, rfl, hm⟩ := dup_split r hr
      exact ⟨x :: A, n, B, rfl, List.mem_cons_of_mem _ hm⟩
theorem join_len_iff {L : List Lt} (h : ∀ x ∈ L, 1 ≤ x.cnt) : (joinL L).length = L.length ↔ dupT [] (L.map Lt.good) = false := by
  have hin : ∀ n ∈ (joinL L).map Lt.good, n ∈ L.map Lt.good := fun n hn => by
    obtain ⟨x, hx, e, -⟩ := posTot_pos.1 (joinL_mem.1 hn)
    exact List.mem_map.2 ⟨x, hx, e⟩
  have hout : ∀ n ∈ L.map Lt.good, n ∈ (joinL L).map Lt.good := fun n hn => by
    obtain ⟨x, hx, e⟩ := List.mem_map.1 hn
    have := h x hx
    exact joinL_mem.2 (posTot_pos.2 ⟨x, hx, e, by omega⟩)
  have hnd := norm_goods (joinL_norm L)
  rw [dupT_iff _ [] List.nodup_nil, List.nil_append]
  constructor
  · intro e
    refine Classical.byContradiction fun hn => ?_
    obtain ⟨A, n, B, hs, hm⟩ := dup_split _ hn
    have h1 := length_sub ((joinL L).map Lt.good) (A ++ B) hnd (fun x hx => by
      have := hin x hx
      rw [hs] at this
      rcases List.mem_append.1 this with h2 | h2
      · exact List.mem_append_left _ h2
      · rcases List.mem_cons.1 h2 with rfl | h3
        · exact hm
        · exact List.mem_append_right _ h3)
    have h2 := congrArg List.length hs
    simp only [List.length_map, List.length_append, List.length_cons] at h1 h2
    omega
  · intro hn
    have h1 := length_sub _ _ hnd hin
    have h2 := length_sub _ _ hn hout
    simp only [List.length_map] at h1 h2
    omega
/-- Is a box right, as the reference says it. -/
theorem boxOk_ref (t : List Gd) (b : Bx) : boxOk t b = (markOk (bt b.mark) && (decide (0 < b.lots.length) && (goP t b.kind b.lots && decide ((joinL b.lots).length = b.lots.length)))) := by
  unfold boxOk
  cases hg : goP t b.kind b.lots with
  | false => simp
  | true =>
    have hp : ∀ x ∈ b.lots, 1 ≤ x.cnt := fun x hx => goP_pos hg x hx
    have hj := join_len_iff hp
    by_cases he : (joinL b.lots).length = b.lots.length
    · rw [hj.1 he, decide_eq_true he]; rfl
    · have hd : dupT [] (b.lots.map Lt.good) = true := by
        cases hd : dupT [] (b.lots.map Lt.good) with
        | true => rfl
        | false => exact absurd (hj.2 hd) he
      rw [hd, decide_eq_false he]; rfl
end Go.Proofs.YtgnfdplphpejaaaGreatDoor.Sc
namespace Go.Proofs.YtgnfdplphpejaaaGreatDoor.Sc
open Go Go.RowKit Go.ChangeShapes Go.WideShapes Go.ChangeAt
set_option maxRecDepth 100000

set_option maxHeartbeats 16000000 in
theorem refBoxes_any (t : List Gd) (l : List Bv) (lots : List Lt) (vt vb vl : Value) (w : World) (hst : Sl w 4 vt (t.map Gd.row)) (hb : BoxesAt w vb l) (hbf : ∀ x ∈ l, x.fit) (hf : BxFew l) (hs : Sl w 2 vl (lots.map Lt.row)) (hl : lots.length ≤ 4000) (hc : ∀ x ∈ lots, x.cnt ≤ 1099511627776) (hok : ∀ g ∈ t, gdOk g = true) :
    Calls Tryz.prog 16 #[vt, vb, vl] w (RetB w (rightP t (l.map Bv.b) lots)) := by
  obtain ⟨ab, cb, rfl⟩ : ∃ a c, vb = .slice a l.length c := by simpa using hb.1.shape
  have HMR := Lib.hid (fun W (x : Bv) (hx : x ∈ l) => refRight_any x.b.mark (hbf x hx).1 W)
  have HGO := Lib.hid (fun W (hW : Below w.heap.size w W) (x : Bv) (hx : x ∈ l) => refGo_any t x.b.kind x.b.lots vt x.v W (hst.below hW (Nat.le_refl _)) ((hb.below hW).2 x hx) (hbf x hx).2 (hf.lots x hx) (hf.cnt x hx) hok)
  have HJB := Lib.hid (fun W (hW : Below w.heap.size w W) (x : Bv) (hx : x ∈ l) => refJoin_any x.b.lots x.v W ((hb.below hW).2 x hx) (by have := hf.lots x hx; omega) (hf.cnt x hx))
  have HCO := Lib.hid (fun W (hW : Below w.heap.size w W) => refContent_any l _ W (hb.below hW) hf)
  have HJN := Lib.hid (fun W (hW : Below w.heap.size w W) => refJoin_any lots _ W (hs.below hW (Nat.le_refl _)) hl hc)
  have HBS := Lib.hid (fun W (hW : Below w.heap.size w W) => hb.below hW)
  have hll : l.length ≤ 65 := hf.len
  obtain ⟨bs, hbs⟩ : ∃ bs, bs = l.map Bv.b := ⟨_, rfl⟩
  obtain ⟨M, hM⟩ : ∃ M, M = bs.map Bx.mark := ⟨_, rfl⟩
  have hbl : bs.length = l.length := by rw [hbs, List.length_map]
  have HBE := Lib.hid hbs
  have HME := Lib.hid hM
  have HFF := Lib.hid hf
  have HRP : Hid (rightP t (l.map Bv.b) lots = (rightF t [] bs && decide (joinL (lotsV l) = joinL lots))) := Lib.hid (by rw [hbs]; rfl)
  clear hst hb hbf hf hs hl hc hok hbs hM
  go_enter Tryz.func16, Tryz.ntmps16
  go_wp2_with fail
  go_loopw [7, 8, 9] (fun i _ _ wr => ∃ n : Nat, n ≤ l.length ∧ i = .int .i64 n ∧ rightF t [] bs = rightF t (M.take n) (bs.drop n) ∧ Below w.heap.size w wr) (fun i _ _ _ => l.length - (intOf i).toNat)
  case atStart => exact ⟨0, Nat.zero_le _, rfl, rfl, Below.refl _ _⟩
  case round =>
    obtain ⟨n, hn, rfl, hd, hbel⟩ := hrel
    have HBEL := Lib.hid hbel
    by_cases hlt : n < l.length
    · have hnb : n < bs.length := by omega
      have hbsn : bs[n] = l[n].b := by simp only [HBE.out, List.getElem_map]
      have hnx := rightF_next (t := t) hnb HME.out
      rw [hbsn, boxOk_ref] at hnx
      obtain ⟨b, off, rfl, -, hbk, hc⟩ := (HBS.out wr hbel).1.at (i := n) (by simpa using hlt)
      have d0 : wr.cell? ⟨b, off + n * 3, none⟩ = some (.string l[n].b.mark) := hc n l[n].cells (by simp [hlt]) 0 _ rfl
      have d1 : wr.cell? ⟨b, off + n * 3 + 1, none⟩ = some (.int .i64 l[n].b.kind) := hc n l[n].cells (by simp [hlt]) 1 _ rfl
      have d2 : wr.cell? ⟨b, off + n * 3 + 2, none⟩ = some l[n].v := hc n l[n].cells (by simp [hlt]) 2 _ rfl
      have HMK : Hid (∀ W, Below w.heap.size w W → ∀ q (hq : q < l.length), W.cell? ⟨b, off + q * 3, none⟩ = some (.string l[q].b.mark)) := Lib.hid (fun W hW q hq => by
        obtain ⟨b2, off2, he, -, -, hc2⟩ := (HBS.out W hW).1.at (i := q) (by simpa using hq)
        simp only [Option.some.injEq, Addr.mk.injEq, and_true] at he
        obtain ⟨rfl, rfl⟩ := he
        exact hc2 q l[q].cells (by simp [hq]) 0 _ rfl)
      obtain ⟨al, cl, hxv⟩ := ((HBS.out wr hbel).2 l[n] (List.getElem_mem hlt)).shape
      have HMRn := Lib.hid (fun W => HMR.out W l[n] (List.getElem_mem hlt))
      have HGOn := Lib.hid (fun W (hW : Below w.heap.size w W) => HGO.out W hW l[n] (List.getElem_mem hlt))
      have HJBn := Lib.hid (fun W (hW : Below w.heap.size w W) => HJB.out W hW l[n] (List.getElem_mem hlt))
      rw [List.length_map] at hxv
      rw [hxv] at d2 HGOn HJBn
      have hLL := HFF.out.lots l[n] (List.getElem_mem hlt)
      obtain ⟨m, k, L, hxm, hxk, hxl⟩ : ∃ m k L, m = l[n].b.mark ∧ k = l[n].b.kind ∧ L = l[n].b.lots := ⟨_, _, _, rfl, rfl, rfl⟩
      rw [← hxm] at d0 hnx HMRn
      rw [← hxk] at d1 hnx HGOn
      rw [← hxl] at d2 hnx HGOn HJBn hLL
      have tk : ((n : Nat) : Int) < (l.length : Int) := by omega
      have alb := one_below wr (.cells #[.string m, .int .i64 k, .slice al L.length cl] 45)
      have HBA := Lib.hid (hbel.trans (alb.mono hbel.size))
      have HXA := Lib.hid (heap_alloc_new wr (.cells #[.string m, .int .i64 k, .slice al L.length cl] 45))
      have HD := Lib.hid (hd.trans hnx)
      clear hbk hc hbel hd alb hnx hxv hxm hxk hxl hbsn hnb
      go_wp2_with fail
      obtain ⟨w8, hw8⟩ : ∃ W, W = wr.alloc (.cells #[.string m, .int .i64 k, .slice al L.length cl] 45) := ⟨_, rfl⟩
      obtain ⟨b8, hb8⟩ : ∃ b, b = wr.heap.size := ⟨_, rfl⟩
      rw [← hw8] at HBA HXA ⊢
      rw [← hb8] at HXA ⊢
      clear hw8 hb8
      have HB8 := HBA
      have HM8 := HXA
      have HRI := Lib.hid (fun W (_ : Below w8.heap.size w8 W) => HMRn.out W)
      have HGO8 := Lib.hid (fun W (hW : Below w8.heap.size w8 W) => HGOn.out W (HB8.out.trans (hW.mono HB8.out.size)))
      have HJB8 := Lib.hid (fun W (hW : Below w8.heap.size w8 W) => HJBn.out W (HB8.out.trans (hW.mono HB8.out.size)))
      clear HMRn HGOn HJBn HBA HXA d0 d1 d2
      obtain ⟨J, hJ⟩ : ∃ J, J = joinL L := ⟨_, rfl⟩
      rw [← hJ] at HJB8 HD
      clear hJ
      cases h1 : markOk (bt m)
      · rw [h1] at HRI HD
        have HQ : Hid (rightP t (l.map Bv.b) lots = false) := Lib.hid (by rw [HRP.out, HD.out]; simp)
        clear h1
        refine Any.region_lit (fun
          | 0 => Any.val (.pointer (some ⟨b8, 0, none⟩))
          | 1 => Any.val (.string m)
          | 2 => Any.val (.bool false)
          | 3 => Any.val (.bool true)
          | 4 => Any.val (.bool true)
          | 5 => Any.idle
          | 6 => Any.idle
          | 7 => Any.idle
          | 8 => Any.idle
          | 9 => Any.val (.bool true)
          | 10 => Any.val (.bool true)
          | 11 => Any.idle
          | 12 => Any.idle
          | 13 => Any.idle
          | 14 => Any.idle
          | 15 => Any.idle
          | 16 => Any.idle
          | 17 => Any.idle
          | 18 => Any.val (.bool true)
          | 19 => Any.val (.bool true)
          | 20 => Any.idle
          | 21 => Any.idle
          | 22 => Any.idle
          | 23 => Any.idle
          | 24 => Any.idle
          | 25 => Any.idle
          | 26 => Any.idle
          | 27 => Any.idle
          | 28 => Any.val (.bool true)
          | _ => Any.idle) (by kernel_rfl) (by kernel_rfl) (by kernel_rfl) ?_ ?_ ?_
        · intro i _
          match i with
          | 0 => exact Any.lasts_val _
          | 1 => exact Any.lasts_val _
          | 2 => exact Any.lasts_val _
          | 3 => exact Any.lasts_val _
          | 4 => exact Any.lasts_val _
          | 5 => exact Any.lasts_idle
          | 6 => exact Any.lasts_idle
          | 7 => exact Any.lasts_idle
          | 8 => exact Any.lasts_idle
          | 9 => exact Any.lasts_val _
          | 10 => exact Any.lasts_val _
          | 11 => exact Any.lasts_idle
          | 12 => exact Any.lasts_idle
          | 13 => exact Any.lasts_idle
          | 14 => exact Any.lasts_idle
          | 15 => exact Any.lasts_idle
          | 16 => exact Any.lasts_idle
          | 17 => exact Any.lasts_idle
          | 18 => exact Any.lasts_val _
          | 19 => exact Any.lasts_val _
          | 20 => exact Any.lasts_idle
          | 21 => exact Any.lasts_idle
          | 22 => exact Any.lasts_idle
          | 23 => exact Any.lasts_idle
          | 24 => exact Any.lasts_idle
          | 25 => exact Any.lasts_idle
          | 26 => exact Any.lasts_idle
          | 27 => exact Any.lasts_idle
          | 28 => exact Any.lasts_val _
          | n + 29 => exact Any.lasts_idle
        · refine ⟨?_, ?_, ?_, ?_, ?_, ?_, ?_, ?_, ?_, ?_, ?_, ?_, ?_, ?_, ?_, ?_, ?_, ?_, ?_, ?_, ?_, ?_, ?_, ?_, ?_, ?_, ?_, ?_, ?_, trivial⟩
          · refine Any.owes_plain rfl fun ρ wo hs' hb hc' => ?_
            have h8 : ρ (.tmp 8) = .pointer (some ⟨b8, 0, none⟩) := hs'.old' 8 (by kernel_rfl)
            go_simp
            exact Any.post_val hb rfl rfl
          · refine Any.owes_plain rfl fun ρ wo hs' hb hc' => ?_
            have h20 : ρ (.tmp 20) = .pointer (some ⟨b8, 0, none⟩) := hs'.new' 20 0 (by kernel_rfl)
            have c0 : wo.cell? ⟨b8, 0, none⟩ = some (.string m) := cell_blk (blk (below_undrew hb) (lt_blk HM8.out) HM8.out) 0
            go_simp
            exact Any.post_val hb rfl rfl
          · refine Any.owes_plain rfl fun ρ wo hs' hb hc' => ?_
            have h21 : ρ (.tmp 21) = .string m := hs'.new' 21 1 (by kernel_rfl)
            have hf := hs'.func 40
            go_simp
            exact (HRI.out wo (below_undrew hb)).mono fun e w' ⟨he, hb'⟩ => ⟨_, he, Any.post_vals hb rfl rfl hb'⟩
          · refine Any.owes_plain rfl fun ρ wo hs' hb hc' => ?_
            have h22 : ρ (.tmp 22) = .bool false := hs'.new' 22 2 (by kernel_rfl)
            go_simp
            exact Any.post_val hb rfl rfl
          · refine Any.owes_plain rfl fun ρ wo hs' hb hc' => ?_
            have h23 : ρ (.tmp 23) = .bool true := hs'.new' 23 3 (by kernel_rfl)
            exact Any.ok_move (Any.post_val hb rfl h23)
          · exact Any.owes_off rfl rfl (by kernel_rfl) rfl (by decide) rfl
          · exact Any.owes_off rfl rfl (by kernel_rfl) rfl (by decide) rfl
          · exact Any.owes_off rfl rfl (by kernel_rfl) rfl (by decide) rfl
          · exact Any.owes_off rfl rfl (by kernel_rfl) rfl (by decide) rfl
          · refine Any.owes_plain rfl fun ρ wo hs' hb hc' => ?_
            have h24 : ρ (.tmp 24) = .bool true := hs'.new' 24 4 (by kernel_rfl)
            go_simp
            exact Any.post_val hb rfl rfl
          · refine Any.owes_plain rfl fun ρ wo hs' hb hc' => ?_
            have h29 : ρ (.tmp 29) = .bool true := hs'.new' 29 9 (by kernel_rfl)
            exact Any.ok_move (Any.post_val hb rfl h29)
          · exact Any.owes_off rfl rfl (by kernel_rfl) rfl (by decide) rfl
          · exact Any.owes_off rfl rfl (by kernel_rfl) rfl (by decide) rfl
          · exact Any.owes_off rfl rfl (by kernel_rfl) rfl (by decide) rfl
          · exact Any.owes_off rfl rfl (by kernel_rfl) rfl (by decide) rfl
          · exact Any.owes_off rfl rfl (by kernel_rfl) rfl (by decide) rfl
          · exact Any.owes_off rfl rfl (by kernel_rfl) rfl (by decide) rfl
          · exact Any.owes_off rfl rfl (by kernel_rfl) rfl (by decide) rfl
          · refine Any.owes_plain rfl fun ρ wo hs' hb hc' => ?_
            have h30 : ρ (.tmp 30) = .bool true := hs'.new' 30 10 (by kernel_rfl)
            go_simp
            exact Any.post_val hb rfl rfl
          · refine Any.owes_plain rfl fun ρ wo hs' hb hc' => ?_
            have h38 : ρ (.tmp 38) = .bool true := hs'.new' 38 18 (by kernel_rfl)
            exact Any.ok_move (Any.post_val hb rfl h38)
          · exact Any.owes_off rfl rfl (by kernel_rfl) rfl (by decide) rfl
          · exact Any.owes_off rfl rfl (by kernel_rfl) rfl (by decide) rfl
          · exact Any.owes_off rfl rfl (by kernel_rfl) rfl (by decide) rfl
          · exact Any.owes_off rfl rfl (by kernel_rfl) rfl (by decide) rfl
          · exact Any.owes_off rfl rfl (by kernel_rfl) rfl (by decide) rfl
          · exact Any.owes_off rfl rfl (by kernel_rfl) rfl (by decide) rfl
          · exact Any.owes_off rfl rfl (by kernel_rfl) rfl (by decide) rfl
          · exact Any.owes_off rfl rfl (by kernel_rfl) rfl (by decide) rfl
          · refine Any.owes_plain rfl fun ρ wo hs' hb hc' => ?_
            have h39 : ρ (.tmp 39) = .bool true := hs'.new' 39 19 (by kernel_rfl)
            go_simp
            exact Any.post_val hb rfl rfl
        intro vals w9 hb hk ha
        have h28 : vals 28 = .bool true := hk 28 (by kernel_rfl)
        have HB9 := Lib.hid (HB8.out.trans (hb.mono HB8.out.size))
        have HM9 := Lib.hid (blk hb (lt_blk HM8.out) HM8.out)
        clear hk ha hb
        simp only [Any.putAll]
        go_frame
        simp only [Nat.zero_add, Nat.reduceAdd]
        rw [h28]
        clear h28
        go_wp2_with fail
        go_ret
        exact retB HQ.out.symm HB9.out
      rw [h1] at HRI HD
      clear h1
      by_cases h2 : L.length = 0
      · have t2 : ((L.length : Int) == 0) = true := by simp [h2]
        have t2' : (L.length == 0) = true := by simp [h2]
        have HQ : Hid (rightP t (l.map Bv.b) lots = false) := Lib.hid (by rw [HRP.out, HD.out, decide_eq_false (show ¬ 0 < L.length by omega)]; simp)
        clear h2
        refine Any.region_lit (fun
          | 0 => Any.val (.pointer (some ⟨b8, 0, none⟩))
          | 1 => Any.val (.string m)
          | 2 => Any.val (.bool true)
          | 3 => Any.val (.bool false)
          | 4 => Any.val (.bool false)
          | 5 => Any.val (.pointer (some ⟨b8, 2, none⟩))
          | 6 => Any.val (.slice al L.length cl)
          | 7 => Any.val (.int .i64 (L.length : Int))
          | 8 => Any.val (.bool true)
          | 9 => Any.val (.bool true)
          | 10 => Any.val (.bool true)
          | 11 => Any.idle
          | 12 => Any.idle
          | 13 => Any.idle
          | 14 => Any.idle
          | 15 => Any.idle
          | 16 => Any.idle
          | 17 => Any.idle
          | 18 => Any.val (.bool true)
          | 19 => Any.val (.bool true)
          | 20 => Any.idle
          | 21 => Any.idle
          | 22 => Any.idle
          | 23 => Any.idle
          | 24 => Any.idle
          | 25 => Any.idle
          | 26 => Any.idle
          | 27 => Any.idle
          | 28 => Any.val (.bool true)
          | _ => Any.idle) (by kernel_rfl) (by kernel_rfl) (by kernel_rfl) ?_ ?_ ?_
        · intro i _
          match i with
          | 0 => exact Any.lasts_val _
          | 1 => exact Any.lasts_val _
          | 2 => exact Any.lasts_val _
          | 3 => exact Any.lasts_val _
          | 4 => exact Any.lasts_val _
          | 5 => exact Any.lasts_val _
          | 6 => exact Any.lasts_val _
          | 7 => exact Any.lasts_val _
          | 8 => exact Any.lasts_val _
          | 9 => exact Any.lasts_val _
          | 10 => exact Any.lasts_val _
          | 11 => exact Any.lasts_idle
          | 12 => exact Any.lasts_idle
          | 13 => exact Any.lasts_idle
          | 14 => exact Any.lasts_idle
          | 15 => exact Any.lasts_idle
          | 16 => exact Any.lasts_idle
          | 17 => exact Any.lasts_idle
          | 18 => exact Any.lasts_val _
          | 19 => exact Any.lasts_val _
          | 20 => exact Any.lasts_idle
          | 21 => exact Any.lasts_idle
          | 22 => exact Any.lasts_idle
          | 23 => exact Any.lasts_idle
          | 24 => exact Any.lasts_idle
          | 25 => exact Any.lasts_idle
          | 26 => exact Any.lasts_idle
          | 27 => exact Any.lasts_idle
          | 28 => exact Any.lasts_val _
          | n + 29 => exact Any.lasts_idle
        · refine ⟨?_, ?_, ?_, ?_, ?_, ?_, ?_, ?_, ?_, ?_, ?_, ?_, ?_, ?_, ?_, ?_, ?_, ?_, ?_, ?_, ?_, ?_, ?_, ?_, ?_, ?_, ?_, ?_, ?_, trivial⟩
          · refine Any.owes_plain rfl fun ρ wo hs' hb hc' => ?_
            have h8 : ρ (.tmp 8) = .pointer (some ⟨b8, 0, none⟩) := hs'.old' 8 (by kernel_rfl)
            go_simp
            exact Any.post_val hb rfl rfl
          · refine Any.owes_plain rfl fun ρ wo hs' hb hc' => ?_
            have h20 : ρ (.tmp 20) = .pointer (some ⟨b8, 0, none⟩) := hs'.new' 20 0 (by kernel_rfl)
            have c0 : wo.cell? ⟨b8, 0, none⟩ = some (.string m) := cell_blk (blk (below_undrew hb) (lt_blk HM8.out) HM8.out) 0
            go_simp
            exact Any.post_val hb rfl rfl
          · refine Any.owes_plain rfl fun ρ wo hs' hb hc' => ?_
            have h21 : ρ (.tmp 21) = .string m := hs'.new' 21 1 (by kernel_rfl)
            have hf := hs'.func 40
            go_simp
            exact (HRI.out wo (below_undrew hb)).mono fun e w' ⟨he, hb'⟩ => ⟨_, he, Any.post_vals hb rfl rfl hb'⟩
          · refine Any.owes_plain rfl fun ρ wo hs' hb hc' => ?_
            have h22 : ρ (.tmp 22) = .bool true := hs'.new' 22 2 (by kernel_rfl)
            go_simp
            exact Any.post_val hb rfl rfl
          · refine Any.owes_plain rfl fun ρ wo hs' hb hc' => ?_
            have h23 : ρ (.tmp 23) = .bool false := hs'.new' 23 3 (by kernel_rfl)
            exact Any.ok_move (Any.post_val hb rfl h23)
          · refine Any.owes_on rfl rfl (by kernel_rfl) rfl fun ρ wo hs' hb hc' => ?_
            have h8 : ρ (.tmp 8) = .pointer (some ⟨b8, 0, none⟩) := hs'.old' 8 (by kernel_rfl)
            go_simp
            exact Any.post_val hb rfl rfl
          · refine Any.owes_on rfl rfl (by kernel_rfl) rfl fun ρ wo hs' hb hc' => ?_
            have h25 : ρ (.tmp 25) = .pointer (some ⟨b8, 2, none⟩) := hs'.new' 25 5 (by kernel_rfl)
            have c0 : wo.cell? ⟨b8, 2, none⟩ = some (.slice al L.length cl) := cell_blk (blk (below_undrew hb) (lt_blk HM8.out) HM8.out) 2
            go_simp
            exact Any.post_val hb rfl rfl
          · refine Any.owes_on rfl rfl (by kernel_rfl) rfl fun ρ wo hs' hb hc' => ?_
            have h26 : ρ (.tmp 26) = .slice al L.length cl := hs'.new' 26 6 (by kernel_rfl)
            go_simp
            exact Any.post_val hb rfl rfl
          · refine Any.owes_on rfl rfl (by kernel_rfl) rfl fun ρ wo hs' hb hc' => ?_
            have h27 : ρ (.tmp 27) = .int .i64 (L.length : Int) := hs'.new' 27 7 (by kernel_rfl)
            go_simp
            exact Any.post_val hb rfl rfl
          · refine Any.owes_plain rfl fun ρ wo hs' hb hc' => ?_
            have h24 : ρ (.tmp 24) = .bool false := hs'.new' 24 4 (by kernel_rfl)
            have h28 : ρ (.tmp 28) = .bool true := hs'.new' 28 8 (by kernel_rfl)
            go_simp
            exact Any.post_val hb rfl rfl
          · refine Any.owes_plain rfl fun ρ wo hs' hb hc' => ?_
            have h29 : ρ (.tmp 29) = .bool true := hs'.new' 29 9 (by kernel_rfl)
            exact Any.ok_move (Any.post_val hb rfl h29)
          · exact Any.owes_off rfl rfl (by kernel_rfl) rfl (by decide) rfl
          · exact Any.owes_off rfl rfl (by kernel_rfl) rfl (by decide) rfl
          · exact Any.owes_off rfl rfl (by kernel_rfl) rfl (by decide) rfl
          · exact Any.owes_off rfl rfl (by kernel_rfl) rfl (by decide) rfl
          · exact Any.owes_off rfl rfl (by kernel_rfl) rfl (by decide) rfl
          · exact Any.owes_off rfl rfl (by kernel_rfl) rfl (by decide) rfl
          · exact Any.owes_off rfl rfl (by kernel_rfl) rfl (by decide) rfl
          · refine Any.owes_plain rfl fun ρ wo hs' hb hc' => ?_
            have h30 : ρ (.tmp 30) = .bool true := hs'.new' 30 10 (by kernel_rfl)
            go_simp
            exact Any.post_val hb rfl rfl
          · refine Any.owes_plain rfl fun ρ wo hs' hb hc' => ?_
            have h38 : ρ (.tmp 38) = .bool true := hs'.new' 38 18 (by kernel_rfl)
            exact Any.ok_move (Any.post_val hb rfl h38)
          · exact Any.owes_off rfl rfl (by kernel_rfl) rfl (by decide) rfl
          · exact Any.owes_off rfl rfl (by kernel_rfl) rfl (by decide) rfl
          · exact Any.owes_off rfl rfl (by kernel_rfl) rfl (by decide) rfl
          · exact Any.owes_off rfl rfl (by kernel_rfl) rfl (by decide) rfl
          · exact Any.owes_off rfl rfl (by kernel_rfl) rfl (by decide) rfl
          · exact Any.owes_off rfl rfl (by kernel_rfl) rfl (by decide) rfl
          · exact Any.owes_off rfl rfl (by kernel_rfl) rfl (by decide) rfl
          · exact Any.owes_off rfl rfl (by kernel_rfl) rfl (by decide) rfl
          · refine Any.owes_plain rfl fun ρ wo hs' hb hc' => ?_
            have h39 : ρ (.tmp 39) = .bool true := hs'.new' 39 19 (by kernel_rfl)
            go_simp
            exact Any.post_val hb rfl rfl
        intro vals w9 hb hk ha
        have h28 : vals 28 = .bool true := hk 28 (by kernel_rfl)
        have HB9 := Lib.hid (HB8.out.trans (hb.mono HB8.out.size))
        have HM9 := Lib.hid (blk hb (lt_blk HM8.out) HM8.out)
        clear hk ha hb
        simp only [Any.putAll]
        go_frame
        simp only [Nat.zero_add, Nat.reduceAdd]
        rw [h28]
        clear h28
        go_wp2_with fail
        go_ret
        exact retB HQ.out.symm HB9.out
      have t2 : ((L.length : Int) == 0) = false := by simp [h2]
      have t2' : (L.length == 0) = false := by simp [h2]
      rw [decide_eq_true (show 0 < L.length by omega)] at HD
      clear h2
      cases h3 : goP t k L
      · rw [h3] at HGO8 HD
        have HQ : Hid (rightP t (l.map Bv.b) lots = false) := Lib.hid (by rw [HRP.out, HD.out]; simp)
        clear h3
        refine Any.region_lit (fun
          | 0 => Any.val (.pointer (some ⟨b8, 0, none⟩))
          | 1 => Any.val (.string m)
          | 2 => Any.val (.bool true)
          | 3 => Any.val (.bool false)
          | 4 => Any.val (.bool false)
          | 5 => Any.val (.pointer (some ⟨b8, 2, none⟩))
          | 6 => Any.val (.slice al L.length cl)
          | 7 => Any.val (.int .i64 (L.length : Int))
          | 8 => Any.val (.bool false)
          | 9 => Any.val (.bool false)
          | 10 => Any.val (.bool false)
          | 11 => Any.val (vt)
          | 12 => Any.val (.pointer (some ⟨b8, 1, none⟩))
          | 13 => Any.val (.int .i64 k)
          | 14 => Any.val (.pointer (some ⟨b8, 2, none⟩))
          | 15 => Any.val (.slice al L.length cl)
          | 16 => Any.val (.bool false)
          | 17 => Any.val (.bool true)
          | 18 => Any.val (.bool true)
          | 19 => Any.val (.bool true)
          | 20 => Any.idle
          | 21 => Any.idle
          | 22 => Any.idle
          | 23 => Any.idle
          | 24 => Any.idle
          | 25 => Any.idle
          | 26 => Any.idle
          | 27 => Any.idle
          | 28 => Any.val (.bool true)
          | _ => Any.idle) (by kernel_rfl) (by kernel_rfl) (by kernel_rfl) ?_ ?_ ?_
        · intro i _
          match i with
          | 0 => exact Any.lasts_val _
          | 1 => exact Any.lasts_val _
          | 2 => exact Any.lasts_val _
          | 3 => exact Any.lasts_val _
          | 4 => exact Any.lasts_val _
          | 5 => exact Any.lasts_val _
          | 6 => exact Any.lasts_val _
          | 7 => exact Any.lasts_val _
          | 8 => exact Any.lasts_val _
          | 9 => exact Any.lasts_val _
          | 10 => exact Any.lasts_val _
          | 11 => exact Any.lasts_val _
          | 12 => exact Any.lasts_val _
          | 13 => exact Any.lasts_val _
          | 14 => exact Any.lasts_val _
          | 15 => exact Any.lasts_val _
          | 16 => exact Any.lasts_val _
          | 17 => exact Any.lasts_val _
          | 18 => exact Any.lasts_val _
          | 19 => exact Any.lasts_val _
          | 20 => exact Any.lasts_idle
          | 21 => exact Any.lasts_idle
          | 22 => exact Any.lasts_idle
          | 23 => exact Any.lasts_idle
          | 24 => exact Any.lasts_idle
          | 25 => exact Any.lasts_idle
          | 26 => exact Any.lasts_idle
          | 27 => exact Any.lasts_idle
          | 28 => exact Any.lasts_val _
          | n + 29 => exact Any.lasts_idle
        · refine ⟨?_, ?_, ?_, ?_, ?_, ?_, ?_, ?_, ?_, ?_, ?_, ?_, ?_, ?_, ?_, ?_, ?_, ?_, ?_, ?_, ?_, ?_, ?_, ?_, ?_, ?_, ?_, ?_, ?_, trivial⟩
          · refine Any.owes_plain rfl fun ρ wo hs' hb hc' => ?_
            have h8 : ρ (.tmp 8) = .pointer (some ⟨b8, 0, none⟩) := hs'.old' 8 (by kernel_rfl)
            go_simp
            exact Any.post_val hb rfl rfl
          · refine Any.owes_plain rfl fun ρ wo hs' hb hc' => ?_
            have h20 : ρ (.tmp 20) = .pointer (some ⟨b8, 0, none⟩) := hs'.new' 20 0 (by kernel_rfl)
            have c0 : wo.cell? ⟨b8, 0, none⟩ = some (.string m) := cell_blk (blk (below_undrew hb) (lt_blk HM8.out) HM8.out) 0
            go_simp
            exact Any.post_val hb rfl rfl
          · refine Any.owes_plain rfl fun ρ wo hs' hb hc' => ?_
            have h21 : ρ (.tmp 21) = .string m := hs'.new' 21 1 (by kernel_rfl)
            have hf := hs'.func 40
            go_simp
            exact (HRI.out wo (below_undrew hb)).mono fun e w' ⟨he, hb'⟩ => ⟨_, he, Any.post_vals hb rfl rfl hb'⟩
          · refine Any.owes_plain rfl fun ρ wo hs' hb hc' => ?_
            have h22 : ρ (.tmp 22) = .bool true := hs'.new' 22 2 (by kernel_rfl)
            go_simp
            exact Any.post_val hb rfl rfl
          · refine Any.owes_plain rfl fun ρ wo hs' hb hc' => ?_
            have h23 : ρ (.tmp 23) = .bool false := hs'.new' 23 3 (by kernel_rfl)
            exact Any.ok_move (Any.post_val hb rfl h23)
          · refine Any.owes_on rfl rfl (by kernel_rfl) rfl fun ρ wo hs' hb hc' => ?_
            have h8 : ρ (.tmp 8) = .pointer (some ⟨b8, 0, none⟩) := hs'.old' 8 (by kernel_rfl)
            go_simp
            exact Any.post_val hb rfl rfl
          · refine Any.owes_on rfl rfl (by kernel_rfl) rfl fun ρ wo hs' hb hc' => ?_
            have h25 : ρ (.tmp 25) = .pointer (some ⟨b8, 2, none⟩) := hs'.new' 25 5 (by kernel_rfl)
            have c0 : wo.cell? ⟨b8, 2, none⟩ = some (.slice al L.length cl) := cell_blk (blk (below_undrew hb) (lt_blk HM8.out) HM8.out) 2
            go_simp
            exact Any.post_val hb rfl rfl
          · refine Any.owes_on rfl rfl (by kernel_rfl) rfl fun ρ wo hs' hb hc' => ?_
            have h26 : ρ (.tmp 26) = .slice al L.length cl := hs'.new' 26 6 (by kernel_rfl)
            go_simp
            exact Any.post_val hb rfl rfl
          · refine Any.owes_on rfl rfl (by kernel_rfl) rfl fun ρ wo hs' hb hc' => ?_
            have h27 : ρ (.tmp 27) = .int .i64 (L.length : Int) := hs'.new' 27 7 (by kernel_rfl)
            go_simp
            exact Any.post_val hb rfl rfl
          · refine Any.owes_plain rfl fun ρ wo hs' hb hc' => ?_
            have h24 : ρ (.tmp 24) = .bool false := hs'.new' 24 4 (by kernel_rfl)
            have h28 : ρ (.tmp 28) = .bool false := hs'.new' 28 8 (by kernel_rfl)
            go_simp
            exact Any.post_val hb rfl rfl
          · refine Any.owes_plain rfl fun ρ wo hs' hb hc' => ?_
            have h29 : ρ (.tmp 29) = .bool false := hs'.new' 29 9 (by kernel_rfl)
            exact Any.ok_move (Any.post_val hb rfl h29)
          · refine Any.owes_on rfl rfl (by kernel_rfl) rfl fun ρ wo hs' hb hc' => ?_
            have h0 : ρ (.tmp 0) = vt := hs'.old' 0 (by kernel_rfl)
            exact Any.ok_move (Any.post_val hb rfl h0)
          · refine Any.owes_on rfl rfl (by kernel_rfl) rfl fun ρ wo hs' hb hc' => ?_
            have h8 : ρ (.tmp 8) = .pointer (some ⟨b8, 0, none⟩) := hs'.old' 8 (by kernel_rfl)
            go_simp
            exact Any.post_val hb rfl rfl
          · refine Any.owes_on rfl rfl (by kernel_rfl) rfl fun ρ wo hs' hb hc' => ?_
            have h32 : ρ (.tmp 32) = .pointer (some ⟨b8, 1, none⟩) := hs'.new' 32 12 (by kernel_rfl)
            have c0 : wo.cell? ⟨b8, 1, none⟩ = some (.int .i64 k) := cell_blk (blk (below_undrew hb) (lt_blk HM8.out) HM8.out) 1
            go_simp
            exact Any.post_val hb rfl rfl
          · refine Any.owes_on rfl rfl (by kernel_rfl) rfl fun ρ wo hs' hb hc' => ?_
            have h8 : ρ (.tmp 8) = .pointer (some ⟨b8, 0, none⟩) := hs'.old' 8 (by kernel_rfl)
            go_simp
            exact Any.post_val hb rfl rfl
          · refine Any.owes_on rfl rfl (by kernel_rfl) rfl fun ρ wo hs' hb hc' => ?_
            have h34 : ρ (.tmp 34) = .pointer (some ⟨b8, 2, none⟩) := hs'.new' 34 14 (by kernel_rfl)
            have c0 : wo.cell? ⟨b8, 2, none⟩ = some (.slice al L.length cl) := cell_blk (blk (below_undrew hb) (lt_blk HM8.out) HM8.out) 2
            go_simp
            exact Any.post_val hb rfl rfl
          · refine Any.owes_on rfl rfl (by kernel_rfl) rfl fun ρ wo hs' hb hc' => ?_
            have h31 : ρ (.tmp 31) = vt := hs'.new' 31 11 (by kernel_rfl)
            have h33 : ρ (.tmp 33) = .int .i64 k := hs'.new' 33 13 (by kernel_rfl)
            have h35 : ρ (.tmp 35) = .slice al L.length cl := hs'.new' 35 15 (by kernel_rfl)
            have hf := hs'.func 38
            go_simp
            exact (HGO8.out wo (below_undrew hb)).mono fun e w' ⟨he, hb'⟩ => ⟨_, he, Any.post_vals hb rfl rfl hb'⟩
          · refine Any.owes_on rfl rfl (by kernel_rfl) rfl fun ρ wo hs' hb hc' => ?_
            have h36 : ρ (.tmp 36) = .bool false := hs'.new' 36 16 (by kernel_rfl)
            go_simp
            exact Any.post_val hb rfl rfl
          · refine Any.owes_plain rfl fun ρ wo hs' hb hc' => ?_
            have h30 : ρ (.tmp 30) = .bool false := hs'.new' 30 10 (by kernel_rfl)
            have h37 : ρ (.tmp 37) = .bool true := hs'.new' 37 17 (by kernel_rfl)
            go_simp
            exact Any.post_val hb rfl rfl
          · refine Any.owes_plain rfl fun ρ wo hs' hb hc' => ?_
            have h38 : ρ (.tmp 38) = .bool true := hs'.new' 38 18 (by kernel_rfl)
            exact Any.ok_move (Any.post_val hb rfl h38)
          · exact Any.owes_off rfl rfl (by kernel_rfl) rfl (by decide) rfl
          · exact Any.owes_off rfl rfl (by kernel_rfl) rfl (by decide) rfl
          · exact Any.owes_off rfl rfl (by kernel_rfl) rfl (by decide) rfl
          · exact Any.owes_off rfl rfl (by kernel_rfl) rfl (by decide) rfl
          · exact Any.owes_off rfl rfl (by kernel_rfl) rfl (by decide) rfl
          · exact Any.owes_off rfl rfl (by kernel_rfl) rfl (by decide) rfl
          · exact Any.owes_off rfl rfl (by kernel_rfl) rfl (by decide) rfl
          · exact Any.owes_off rfl rfl (by kernel_rfl) rfl (by decide) rfl
          · refine Any.owes_plain rfl fun ρ wo hs' hb hc' => ?_
            have h39 : ρ (.tmp 39) = .bool true := hs'.new' 39 19 (by kernel_rfl)
            go_simp
            exact Any.post_val hb rfl rfl
        intro vals w9 hb hk ha
        have h28 : vals 28 = .bool true := hk 28 (by kernel_rfl)
        have HB9 := Lib.hid (HB8.out.trans (hb.mono HB8.out.size))
        have HM9 := Lib.hid (blk hb (lt_blk HM8.out) HM8.out)
        clear hk ha hb
        simp only [Any.putAll]
        go_frame
        simp only [Nat.zero_add, Nat.reduceAdd]
        rw [h28]
        clear h28
        go_wp2_with fail
        go_ret
        exact retB HQ.out.symm HB9.out
      rw [h3] at HGO8 HD
      clear h3
      by_cases h4 : J.length = L.length
      rotate_left
      · have t4 : ((J.length : Int) != (L.length : Int)) = true := by simp only [bne_iff_ne, ne_eq]; omega
        have t4' : (J.length != L.length) = true := by simp [h4]
        have HQ : Hid (rightP t (l.map Bv.b) lots = false) := Lib.hid (by rw [HRP.out, HD.out, decide_eq_false h4]; simp)
        clear h4
        refine Any.region_lit (fun
          | 0 => Any.val (.pointer (some ⟨b8, 0, none⟩))
          | 1 => Any.val (.string m)
          | 2 => Any.val (.bool true)
          | 3 => Any.val (.bool false)
          | 4 => Any.val (.bool false)
          | 5 => Any.val (.pointer (some ⟨b8, 2, none⟩))
          | 6 => Any.val (.slice al L.length cl)
          | 7 => Any.val (.int .i64 (L.length : Int))
          | 8 => Any.val (.bool false)
          | 9 => Any.val (.bool false)
          | 10 => Any.val (.bool false)
          | 11 => Any.val (vt)
          | 12 => Any.val (.pointer (some ⟨b8, 1, none⟩))
          | 13 => Any.val (.int .i64 k)
          | 14 => Any.val (.pointer (some ⟨b8, 2, none⟩))
          | 15 => Any.val (.slice al L.length cl)
          | 16 => Any.val (.bool true)
          | 17 => Any.val (.bool false)
          | 18 => Any.val (.bool false)
          | 19 => Any.val (.bool false)
          | 20 => Any.val (.pointer (some ⟨b8, 2, none⟩))
          | 21 => Any.val (.slice al L.length cl)
          | 22 => Any.row w8.heap.size 38 2 J.length (ltCells J) []
          | 23 => Any.val (.int .i64 (J.length : Int))
          | 24 => Any.val (.pointer (some ⟨b8, 2, none⟩))
          | 25 => Any.val (.slice al L.length cl)
          | 26 => Any.val (.int .i64 (L.length : Int))
          | 27 => Any.val (.bool true)
          | 28 => Any.val (.bool true)
          | _ => Any.idle) (by kernel_rfl) (by kernel_rfl) (by kernel_rfl) ?_ ?_ ?_
        · intro i _
          match i with
          | 0 => exact Any.lasts_val _
          | 1 => exact Any.lasts_val _
          | 2 => exact Any.lasts_val _
          | 3 => exact Any.lasts_val _
          | 4 => exact Any.lasts_val _
          | 5 => exact Any.lasts_val _
          | 6 => exact Any.lasts_val _
          | 7 => exact Any.lasts_val _
          | 8 => exact Any.lasts_val _
          | 9 => exact Any.lasts_val _
          | 10 => exact Any.lasts_val _
          | 11 => exact Any.lasts_val _
          | 12 => exact Any.lasts_val _
          | 13 => exact Any.lasts_val _
          | 14 => exact Any.lasts_val _
          | 15 => exact Any.lasts_val _
          | 16 => exact Any.lasts_val _
          | 17 => exact Any.lasts_val _
          | 18 => exact Any.lasts_val _
          | 19 => exact Any.lasts_val _
          | 20 => exact Any.lasts_val _
          | 21 => exact Any.lasts_val _
          | 22 => exact Any.lasts_row _ _ _ _ _ _
          | 23 => exact Any.lasts_val _
          | 24 => exact Any.lasts_val _
          | 25 => exact Any.lasts_val _
          | 26 => exact Any.lasts_val _
          | 27 => exact Any.lasts_val _
          | 28 => exact Any.lasts_val _
          | n + 29 => exact Any.lasts_idle
        · refine ⟨?_, ?_, ?_, ?_, ?_, ?_, ?_, ?_, ?_, ?_, ?_, ?_, ?_, ?_, ?_, ?_, ?_, ?_, ?_, ?_, ?_, ?_, ?_, ?_, ?_, ?_, ?_, ?_, ?_, trivial⟩
          · refine Any.owes_plain rfl fun ρ wo hs' hb hc' => ?_
            have h8 : ρ (.tmp 8) = .pointer (some ⟨b8, 0, none⟩) := hs'.old' 8 (by kernel_rfl)
            go_simp
            exact Any.post_val hb rfl rfl
          · refine Any.owes_plain rfl fun ρ wo hs' hb hc' => ?_
            have h20 : ρ (.tmp 20) = .pointer (some ⟨b8, 0, none⟩) := hs'.new' 20 0 (by kernel_rfl)
            have c0 : wo.cell? ⟨b8, 0, none⟩ = some (.string m) := cell_blk (blk (below_undrew hb) (lt_blk HM8.out) HM8.out) 0
            go_simp
            exact Any.post_val hb rfl rfl
          · refine Any.owes_plain rfl fun ρ wo hs' hb hc' => ?_
            have h21 : ρ (.tmp 21) = .string m := hs'.new' 21 1 (by kernel_rfl)
            have hf := hs'.func 40
            go_simp
            exact (HRI.out wo (below_undrew hb)).mono fun e w' ⟨he, hb'⟩ => ⟨_, he, Any.post_vals hb rfl rfl hb'⟩
          · refine Any.owes_plain rfl fun ρ wo hs' hb hc' => ?_
            have h22 : ρ (.tmp 22) = .bool true := hs'.new' 22 2 (by kernel_rfl)
            go_simp
            exact Any.post_val hb rfl rfl
          · refine Any.owes_plain rfl fun ρ wo hs' hb hc' => ?_
            have h23 : ρ (.tmp 23) = .bool false := hs'.new' 23 3 (by kernel_rfl)
            exact Any.ok_move (Any.post_val hb rfl h23)
          · refine Any.owes_on rfl rfl (by kernel_rfl) rfl fun ρ wo hs' hb hc' => ?_
            have h8 : ρ (.tmp 8) = .pointer (some ⟨b8, 0, none⟩) := hs'.old' 8 (by kernel_rfl)
            go_simp
            exact Any.post_val hb rfl rfl
          · refine Any.owes_on rfl rfl (by kernel_rfl) rfl fun ρ wo hs' hb hc' => ?_
            have h25 : ρ (.tmp 25) = .pointer (some ⟨b8, 2, none⟩) := hs'.new' 25 5 (by kernel_rfl)
            have c0 : wo.cell? ⟨b8, 2, none⟩ = some (.slice al L.length cl) := cell_blk (blk (below_undrew hb) (lt_blk HM8.out) HM8.out) 2
            go_simp
            exact Any.post_val hb rfl rfl
          · refine Any.owes_on rfl rfl (by kernel_rfl) rfl fun ρ wo hs' hb hc' => ?_
            have h26 : ρ (.tmp 26) = .slice al L.length cl := hs'.new' 26 6 (by kernel_rfl)
            go_simp
            exact Any.post_val hb rfl rfl
          · refine Any.owes_on rfl rfl (by kernel_rfl) rfl fun ρ wo hs' hb hc' => ?_
            have h27 : ρ (.tmp 27) = .int .i64 (L.length : Int) := hs'.new' 27 7 (by kernel_rfl)
            go_simp
            exact Any.post_val hb rfl rfl
          · refine Any.owes_plain rfl fun ρ wo hs' hb hc' => ?_
            have h24 : ρ (.tmp 24) = .bool false := hs'.new' 24 4 (by kernel_rfl)
            have h28 : ρ (.tmp 28) = .bool false := hs'.new' 28 8 (by kernel_rfl)
            go_simp
            exact Any.post_val hb rfl rfl
          · refine Any.owes_plain rfl fun ρ wo hs' hb hc' => ?_
            have h29 : ρ (.tmp 29) = .bool false := hs'.new' 29 9 (by kernel_rfl)
            exact Any.ok_move (Any.post_val hb rfl h29)
          · refine Any.owes_on rfl rfl (by kernel_rfl) rfl fun ρ wo hs' hb hc' => ?_
            have h0 : ρ (.tmp 0) = vt := hs'.old' 0 (by kernel_rfl)
            exact Any.ok_move (Any.post_val hb rfl h0)
          · refine Any.owes_on rfl rfl (by kernel_rfl) rfl fun ρ wo hs' hb hc' => ?_
            have h8 : ρ (.tmp 8) = .pointer (some ⟨b8, 0, none⟩) := hs'.old' 8 (by kernel_rfl)
            go_simp
            exact Any.post_val hb rfl rfl
          · refine Any.owes_on rfl rfl (by kernel_rfl) rfl fun ρ wo hs' hb hc' => ?_
            have h32 : ρ (.tmp 32) = .pointer (some ⟨b8, 1, none⟩) := hs'.new' 32 12 (by kernel_rfl)
            have c0 : wo.cell? ⟨b8, 1, none⟩ = some (.int .i64 k) := cell_blk (blk (below_undrew hb) (lt_blk HM8.out) HM8.out) 1
            go_simp
            exact Any.post_val hb rfl rfl
          · refine Any.owes_on rfl rfl (by kernel_rfl) rfl fun ρ wo hs' hb hc' => ?_
            have h8 : ρ (.tmp 8) = .pointer (some ⟨b8, 0, none⟩) := hs'.old' 8 (by kernel_rfl)
            go_simp
            exact Any.post_val hb rfl rfl
          · refine Any.owes_on rfl rfl (by kernel_rfl) rfl fun ρ wo hs' hb hc' => ?_
            have h34 : ρ (.tmp 34) = .pointer (some ⟨b8, 2, none⟩) := hs'.new' 34 14 (by kernel_rfl)
            have c0 : wo.cell? ⟨b8, 2, none⟩ = some (.slice al L.length cl) := cell_blk (blk (below_undrew hb) (lt_blk HM8.out) HM8.out) 2
            go_simp
            exact Any.post_val hb rfl rfl
          · refine Any.owes_on rfl rfl (by kernel_rfl) rfl fun ρ wo hs' hb hc' => ?_
            have h31 : ρ (.tmp 31) = vt := hs'.new' 31 11 (by kernel_rfl)
            have h33 : ρ (.tmp 33) = .int .i64 k := hs'.new' 33 13 (by kernel_rfl)
            have h35 : ρ (.tmp 35) = .slice al L.length cl := hs'.new' 35 15 (by kernel_rfl)
            have hf := hs'.func 38
            go_simp
            exact (HGO8.out wo (below_undrew hb)).mono fun e w' ⟨he, hb'⟩ => ⟨_, he, Any.post_vals hb rfl rfl hb'⟩
          · refine Any.owes_on rfl rfl (by kernel_rfl) rfl fun ρ wo hs' hb hc' => ?_
            have h36 : ρ (.tmp 36) = .bool true := hs'.new' 36 16 (by kernel_rfl)
            go_simp
            exact Any.post_val hb rfl rfl
          · refine Any.owes_plain rfl fun ρ wo hs' hb hc' => ?_
            have h30 : ρ (.tmp 30) = .bool false := hs'.new' 30 10 (by kernel_rfl)
            have h37 : ρ (.tmp 37) = .bool false := hs'.new' 37 17 (by kernel_rfl)
            go_simp
            exact Any.post_val hb rfl rfl
          · refine Any.owes_plain rfl fun ρ wo hs' hb hc' => ?_
            have h38 : ρ (.tmp 38) = .bool false := hs'.new' 38 18 (by kernel_rfl)
            exact Any.ok_move (Any.post_val hb rfl h38)
          · refine Any.owes_on rfl rfl (by kernel_rfl) rfl fun ρ wo hs' hb hc' => ?_
            have h8 : ρ (.tmp 8) = .pointer (some ⟨b8, 0, none⟩) := hs'.old' 8 (by kernel_rfl)
            go_simp
            exact Any.post_val hb rfl rfl
          · refine Any.owes_on rfl rfl (by kernel_rfl) rfl fun ρ wo hs' hb hc' => ?_
            have h40 : ρ (.tmp 40) = .pointer (some ⟨b8, 2, none⟩) := hs'.new' 40 20 (by kernel_rfl)
            have c0 : wo.cell? ⟨b8, 2, none⟩ = some (.slice al L.length cl) := cell_blk (blk (below_undrew hb) (lt_blk HM8.out) HM8.out) 2
            go_simp
            exact Any.post_val hb rfl rfl
          · refine Any.owes_on rfl rfl (by kernel_rfl) rfl fun ρ wo hs' hb hc' => ?_
            have h41 : ρ (.tmp 41) = .slice al L.length cl := hs'.new' 41 21 (by kernel_rfl)
            have hf := hs'.func 19
            go_simp
            exact (HJB8.out wo (below_undrew hb)).mono fun e w' ⟨v, he, ho, hb'⟩ => ⟨v, he, Any.post_new hb (ownsRow_base ho hb.size) hb' (fun b h => (ho.lt b h).1)⟩
          · refine Any.owes_on rfl rfl (by kernel_rfl) rfl fun ρ wo hs' hb hc' => ?_
            obtain ⟨a7, c7, h42⟩ := Ord.row_slice (show wo.ownsRow w8.heap.size 38 2 (ρ (.tmp 42)) J.length (ltCells J) from hs'.new' 42 22 (by kernel_rfl))
            go_simp
            exact Any.post_val hb rfl rfl
          · refine Any.owes_on rfl rfl (by kernel_rfl) rfl fun ρ wo hs' hb hc' => ?_
            have h8 : ρ (.tmp 8) = .pointer (some ⟨b8, 0, none⟩) := hs'.old' 8 (by kernel_rfl)
            go_simp
            exact Any.post_val hb rfl rfl
          · refine Any.owes_on rfl rfl (by kernel_rfl) rfl fun ρ wo hs' hb hc' => ?_
            have h44 : ρ (.tmp 44) = .pointer (some ⟨b8, 2, none⟩) := hs'.new' 44 24 (by kernel_rfl)
            have c0 : wo.cell? ⟨b8, 2, none⟩ = some (.slice al L.length cl) := cell_blk (blk (below_undrew hb) (lt_blk HM8.out) HM8.out) 2
            go_simp
            exact Any.post_val hb rfl rfl
          · refine Any.owes_on rfl rfl (by kernel_rfl) rfl fun ρ wo hs' hb hc' => ?_
            have h45 : ρ (.tmp 45) = .slice al L.length cl := hs'.new' 45 25 (by kernel_rfl)
            go_simp
            exact Any.post_val hb rfl rfl
          · refine Any.owes_on rfl rfl (by kernel_rfl) rfl fun ρ wo hs' hb hc' => ?_
            have h43 : ρ (.tmp 43) = .int .i64 (J.length : Int) := hs'.new' 43 23 (by kernel_rfl)
            have h46 : ρ (.tmp 46) = .int .i64 (L.length : Int) := hs'.new' 46 26 (by kernel_rfl)
            go_simp
            exact Any.post_val hb rfl rfl
          · refine Any.owes_plain rfl fun ρ wo hs' hb hc' => ?_
            have h39 : ρ (.tmp 39) = .bool false := hs'.new' 39 19 (by kernel_rfl)
            have h47 : ρ (.tmp 47) = .bool true := hs'.new' 47 27 (by kernel_rfl)
            go_simp
            exact Any.post_val hb rfl rfl
        intro vals w9 hb hk ha
        have h28 : vals 28 = .bool true := hk 28 (by kernel_rfl)
        have HB9 := Lib.hid (HB8.out.trans (hb.mono HB8.out.size))
        have HM9 := Lib.hid (blk hb (lt_blk HM8.out) HM8.out)
        clear hk ha hb
        simp only [Any.putAll]
        go_frame
        simp only [Nat.zero_add, Nat.reduceAdd]
        rw [h28]
        clear h28
        go_wp2_with fail
        go_ret
        exact retB HQ.out.symm HB9.out
      have t4 : ((J.length : Int) != (L.length : Int)) = false := by rw [h4]; simp
      have t4' : (J.length != L.length) = false := by simp [h4]
      rw [decide_eq_true h4] at HD
      clear h4
      refine Any.region_lit (fun
        | 0 => Any.val (.pointer (some ⟨b8, 0, none⟩))
        | 1 => Any.val (.string m)
        | 2 => Any.val (.bool true)
        | 3 => Any.val (.bool false)
        | 4 => Any.val (.bool false)
        | 5 => Any.val (.pointer (some ⟨b8, 2, none⟩))
        | 6 => Any.val (.slice al L.length cl)
        | 7 => Any.val (.int .i64 (L.length : Int))
        | 8 => Any.val (.bool false)
        | 9 => Any.val (.bool false)
        | 10 => Any.val (.bool false)
        | 11 => Any.val (vt)
        | 12 => Any.val (.pointer (some ⟨b8, 1, none⟩))
        | 13 => Any.val (.int .i64 k)
        | 14 => Any.val (.pointer (some ⟨b8, 2, none⟩))
        | 15 => Any.val (.slice al L.length cl)
        | 16 => Any.val (.bool true)
        | 17 => Any.val (.bool false)
        | 18 => Any.val (.bool false)
        | 19 => Any.val (.bool false)
        | 20 => Any.val (.pointer (some ⟨b8, 2, none⟩))
        | 21 => Any.val (.slice al L.length cl)
        | 22 => Any.row w8.heap.size 38 2 J.length (ltCells J) []
        | 23 => Any.val (.int .i64 (J.length : Int))
        | 24 => Any.val (.pointer (some ⟨b8, 2, none⟩))
        | 25 => Any.val (.slice al L.length cl)
        | 26 => Any.val (.int .i64 (L.length : Int))
        | 27 => Any.val (.bool false)
        | 28 => Any.val (.bool false)
        | _ => Any.idle) (by kernel_rfl) (by kernel_rfl) (by kernel_rfl) ?_ ?_ ?_
      · intro i _
        match i with
        | 0 => exact Any.lasts_val _
        | 1 => exact Any.lasts_val _
        | 2 => exact Any.lasts_val _
        | 3 => exact Any.lasts_val _
        | 4 => exact Any.lasts_val _
        | 5 => exact Any.lasts_val _
        | 6 => exact Any.lasts_val _
        | 7 => exact Any.lasts_val _
        | 8 => exact Any.lasts_val _
        | 9 => exact Any.lasts_val _
        | 10 => exact Any.lasts_val _
        | 11 => exact Any.lasts_val _
        | 12 => exact Any.lasts_val _
        | 13 => exact Any.lasts_val _
        | 14 => exact Any.lasts_val _
        | 15 => exact Any.lasts_val _
        | 16 => exact Any.lasts_val _
        | 17 => exact Any.lasts_val _
        | 18 => exact Any.lasts_val _
        | 19 => exact Any.lasts_val _
        | 20 => exact Any.lasts_val _
        | 21 => exact Any.lasts_val _
        | 22 => exact Any.lasts_row _ _ _ _ _ _
        | 23 => exact Any.lasts_val _
        | 24 => exact Any.lasts_val _
        | 25 => exact Any.lasts_val _
        | 26 => exact Any.lasts_val _
        | 27 => exact Any.lasts_val _
        | 28 => exact Any.lasts_val _
        | n + 29 => exact Any.lasts_idle
      · refine ⟨?_, ?_, ?_, ?_, ?_, ?_, ?_, ?_, ?_, ?_, ?_, ?_, ?_, ?_, ?_, ?_, ?_, ?_, ?_, ?_, ?_, ?_, ?_, ?_, ?_, ?_, ?_, ?_, ?_, trivial⟩
        · refine Any.owes_plain rfl fun ρ wo hs' hb hc' => ?_
          have h8 : ρ (.tmp 8) = .pointer (some ⟨b8, 0, none⟩) := hs'.old' 8 (by kernel_rfl)
          go_simp
          exact Any.post_val hb rfl rfl
        · refine Any.owes_plain rfl fun ρ wo hs' hb hc' => ?_
          have h20 : ρ (.tmp 20) = .pointer (some ⟨b8, 0, none⟩) := hs'.new' 20 0 (by kernel_rfl)
          have c0 : wo.cell? ⟨b8, 0, none⟩ = some (.string m) := cell_blk (blk (below_undrew hb) (lt_blk HM8.out) HM8.out) 0
          go_simp
          exact Any.post_val hb rfl rfl
        · refine Any.owes_plain rfl fun ρ wo hs' hb hc' => ?_
          have h21 : ρ (.tmp 21) = .string m := hs'.new' 21 1 (by kernel_rfl)
          have hf := hs'.func 40
          go_simp
          exact (HRI.out wo (below_undrew hb)).mono fun e w' ⟨he, hb'⟩ => ⟨_, he, Any.post_vals hb rfl rfl hb'⟩
        · refine Any.owes_plain rfl fun ρ wo hs' hb hc' => ?_
          have h22 : ρ (.tmp 22) = .bool true := hs'.new' 22 2 (by kernel_rfl)
          go_simp
          exact Any.post_val hb rfl rfl
        · refine Any.owes_plain rfl fun ρ wo hs' hb hc' => ?_
          have h23 : ρ (.tmp 23) = .bool false := hs'.new' 23 3 (by kernel_rfl)
          exact Any.ok_move (Any.post_val hb rfl h23)
        · refine Any.owes_on rfl rfl (by kernel_rfl) rfl fun ρ wo hs' hb hc' => ?_
          have h8 : ρ (.tmp 8) = .pointer (some ⟨b8, 0, none⟩) := hs'.old' 8 (by kernel_rfl)
          go_simp
          exact Any.post_val hb rfl rfl
        · refine Any.owes_on rfl rfl (by kernel_rfl) rfl fun ρ wo hs' hb hc' => ?_
          have h25 : ρ (.tmp 25) = .pointer (some ⟨b8, 2, none⟩) := hs'.new' 25 5 (by kernel_rfl)
          have c0 : wo.cell? ⟨b8, 2, none⟩ = some (.slice al L.length cl) := cell_blk (blk (below_undrew hb) (lt_blk HM8.out) HM8.out) 2
          go_simp
          exact Any.post_val hb rfl rfl
        · refine Any.owes_on rfl rfl (by kernel_rfl) rfl fun ρ wo hs' hb hc' => ?_
          have h26 : ρ (.tmp 26) = .slice al L.length cl := hs'.new' 26 6 (by kernel_rfl)
          go_simp
          exact Any.post_val hb rfl rfl
        · refine Any.owes_on rfl rfl (by kernel_rfl) rfl fun ρ wo hs' hb hc' => ?_
          have h27 : ρ (.tmp 27) = .int .i64 (L.length : Int) := hs'.new' 27 7 (by kernel_rfl)
          go_simp
          exact Any.post_val hb rfl rfl
        · refine Any.owes_plain rfl fun ρ wo hs' hb hc' => ?_
          have h24 : ρ (.tmp 24) = .bool false := hs'.new' 24 4 (by kernel_rfl)
          have h28 : ρ (.tmp 28) = .bool false := hs'.new' 28 8 (by kernel_rfl)
          go_simp
          exact Any.post_val hb rfl rfl
        · refine Any.owes_plain rfl fun ρ wo hs' hb hc' => ?_
          have h29 : ρ (.tmp 29) = .bool false := hs'.new' 29 9 (by kernel_rfl)
          exact Any.ok_move (Any.post_val hb rfl h29)
        · refine Any.owes_on rfl rfl (by kernel_rfl) rfl fun ρ wo hs' hb hc' => ?_
          have h0 : ρ (.tmp 0) = vt := hs'.old' 0 (by kernel_rfl)
          exact Any.ok_move (Any.post_val hb rfl h0)
        · refine Any.owes_on rfl rfl (by kernel_rfl) rfl fun ρ wo hs' hb hc' => ?_
          have h8 : ρ (.tmp 8) = .pointer (some ⟨b8, 0, none⟩) := hs'.old' 8 (by kernel_rfl)
          go_simp
          exact Any.post_val hb rfl rfl
        · refine Any.owes_on rfl rfl (by kernel_rfl) rfl fun ρ wo hs' hb hc' => ?_
          have h32 : ρ (.tmp 32) = .pointer (some ⟨b8, 1, none⟩) := hs'.new' 32 12 (by kernel_rfl)
          have c0 : wo.cell? ⟨b8, 1, none⟩ = some (.int .i64 k) := cell_blk (blk (below_undrew hb) (lt_blk HM8.out) HM8.out) 1
          go_simp
          exact Any.post_val hb rfl rfl
        · refine Any.owes_on rfl rfl (by kernel_rfl) rfl fun ρ wo hs' hb hc' => ?_
          have h8 : ρ (.tmp 8) = .pointer (some ⟨b8, 0, none⟩) := hs'.old' 8 (by kernel_rfl)
          go_simp
          exact Any.post_val hb rfl rfl
        · refine Any.owes_on rfl rfl (by kernel_rfl) rfl fun ρ wo hs' hb hc' => ?_
          have h34 : ρ (.tmp 34) = .pointer (some ⟨b8, 2, none⟩) := hs'.new' 34 14 (by kernel_rfl)
          have c0 : wo.cell? ⟨b8, 2, none⟩ = some (.slice al L.length cl) := cell_blk (blk (below_undrew hb) (lt_blk HM8.out) HM8.out) 2
          go_simp
          exact Any.post_val hb rfl rfl
        · refine Any.owes_on rfl rfl (by kernel_rfl) rfl fun ρ wo hs' hb hc' => ?_
          have h31 : ρ (.tmp 31) = vt := hs'.new' 31 11 (by kernel_rfl)
          have h33 : ρ (.tmp 33) = .int .i64 k := hs'.new' 33 13 (by kernel_rfl)
          have h35 : ρ (.tmp 35) = .slice al L.length cl := hs'.new' 35 15 (by kernel_rfl)
          have hf := hs'.func 38
          go_simp
          exact (HGO8.out wo (below_undrew hb)).mono fun e w' ⟨he, hb'⟩ => ⟨_, he, Any.post_vals hb rfl rfl hb'⟩
        · refine Any.owes_on rfl rfl (by kernel_rfl) rfl fun ρ wo hs' hb hc' => ?_
          have h36 : ρ (.tmp 36) = .bool true := hs'.new' 36 16 (by kernel_rfl)
          go_simp
          exact Any.post_val hb rfl rfl
        · refine Any.owes_plain rfl fun ρ wo hs' hb hc' => ?_
          have h30 : ρ (.tmp 30) = .bool false := hs'.new' 30 10 (by kernel_rfl)
          have h37 : ρ (.tmp 37) = .bool false := hs'.new' 37 17 (by kernel_rfl)
          go_simp
          exact Any.post_val hb rfl rfl
        · refine Any.owes_plain rfl fun ρ wo hs' hb hc' => ?_
          have h38 : ρ (.tmp 38) = .bool false := hs'.new' 38 18 (by kernel_rfl)
          exact Any.ok_move (Any.post_val hb rfl h38)
        · refine Any.owes_on rfl rfl (by kernel_rfl) rfl fun ρ wo hs' hb hc' => ?_
          have h8 : ρ (.tmp 8) = .pointer (some ⟨b8, 0, none⟩) := hs'.old' 8 (by kernel_rfl)
          go_simp
          exact Any.post_val hb rfl rfl
        · refine Any.owes_on rfl rfl (by kernel_rfl) rfl fun ρ wo hs' hb hc' => ?_
          have h40 : ρ (.tmp 40) = .pointer (some ⟨b8, 2, none⟩) := hs'.new' 40 20 (by kernel_rfl)
          have c0 : wo.cell? ⟨b8, 2, none⟩ = some (.slice al L.length cl) := cell_blk (blk (below_undrew hb) (lt_blk HM8.out) HM8.out) 2
          go_simp
          exact Any.post_val hb rfl rfl
        · refine Any.owes_on rfl rfl (by kernel_rfl) rfl fun ρ wo hs' hb hc' => ?_
          have h41 : ρ (.tmp 41) = .slice al L.length cl := hs'.new' 41 21 (by kernel_rfl)
          have hf := hs'.func 19
          go_simp
          exact (HJB8.out wo (below_undrew hb)).mono fun e w' ⟨v, he, ho, hb'⟩ => ⟨v, he, Any.post_new hb (ownsRow_base ho hb.size) hb' (fun b h => (ho.lt b h).1)⟩
        · refine Any.owes_on rfl rfl (by kernel_rfl) rfl fun ρ wo hs' hb hc' => ?_
          obtain ⟨a7, c7, h42⟩ := Ord.row_slice (show wo.ownsRow w8.heap.size 38 2 (ρ (.tmp 42)) J.length (ltCells J) from hs'.new' 42 22 (by kernel_rfl))
          go_simp
          exact Any.post_val hb rfl rfl
        · refine Any.owes_on rfl rfl (by kernel_rfl) rfl fun ρ wo hs' hb hc' => ?_
          have h8 : ρ (.tmp 8) = .pointer (some ⟨b8, 0, none⟩) := hs'.old' 8 (by kernel_rfl)
          go_simp
          exact Any.post_val hb rfl rfl
        · refine Any.owes_on rfl rfl (by kernel_rfl) rfl fun ρ wo hs' hb hc' => ?_
          have h44 : ρ (.tmp 44) = .pointer (some ⟨b8, 2, none⟩) := hs'.new' 44 24 (by kernel_rfl)
          have c0 : wo.cell? ⟨b8, 2, none⟩ = some (.slice al L.length cl) := cell_blk (blk (below_undrew hb) (lt_blk HM8.out) HM8.out) 2
          go_simp
          exact Any.post_val hb rfl rfl
        · refine Any.owes_on rfl rfl (by kernel_rfl) rfl fun ρ wo hs' hb hc' => ?_
          have h45 : ρ (.tmp 45) = .slice al L.length cl := hs'.new' 45 25 (by kernel_rfl)
          go_simp
          exact Any.post_val hb rfl rfl
        · refine Any.owes_on rfl rfl (by kernel_rfl) rfl fun ρ wo hs' hb hc' => ?_
          have h43 : ρ (.tmp 43) = .int .i64 (J.length : Int) := hs'.new' 43 23 (by kernel_rfl)
          have h46 : ρ (.tmp 46) = .int .i64 (L.length : Int) := hs'.new' 46 26 (by kernel_rfl)
          go_simp
          exact Any.post_val hb rfl rfl
        · refine Any.owes_plain rfl fun ρ wo hs' hb hc' => ?_
          have h39 : ρ (.tmp 39) = .bool false := hs'.new' 39 19 (by kernel_rfl)
          have h47 : ρ (.tmp 47) = .bool false := hs'.new' 47 27 (by kernel_rfl)
          go_simp
          exact Any.post_val hb rfl rfl
      intro vals w9 hb hk ha
      have h28 : vals 28 = .bool false := hk 28 (by kernel_rfl)
      have HB9 := Lib.hid (HB8.out.trans (hb.mono HB8.out.size))
      have HM9 := Lib.hid (blk hb (lt_blk HM8.out) HM8.out)
      clear hk ha hb
      simp only [Any.putAll]
      go_frame
      simp only [Nat.zero_add, Nat.reduceAdd]
      rw [h28]
      clear h28
      go_wp2_with fail
      go_loopw [9] (fun i wr => ∃ q : Nat, q ≤ n ∧ i = .int .i64 q ∧ m ∉ M.take q ∧ wr.heap[b8]? = some (.cells #[.string m, .int .i64 k, .slice al L.length cl] 45 (0, 0)) ∧ Below w.heap.size w wr) (fun i _ => n - (intOf i).toNat)
      case atStart => exact ⟨0, Nat.zero_le _, rfl, by simp, HM9.out, HB9.out⟩
      case round =>
        obtain ⟨q, hq, rfl, hnm, hx, hbel⟩ := hrel
        have HBX := Lib.hid hbel
        have HMX := Lib.hid hx
        have HNM := Lib.hid hnm
        by_cases hqn : q < n
        · have hql : q < l.length := by omega
          have hqM : q < M.length := by rw [HME.out, List.length_map]; omega
          have hMq : M[q] = l[q].b.mark := by simp only [HME.out, HBE.out, List.getElem_map]
          have HMQ := Lib.hid (fun W (hW : Below wr.heap.size wr W) => HMK.out W (hbel.trans (hW.mono hbel.size)) q hql)
          have htk := List.take_succ_eq_append_getElem hqM
          have hmn : M[q] ∈ M.take n := List.mem_take_iff_getElem.2 ⟨q, by omega, rfl⟩
          rw [hMq] at htk hmn
          obtain ⟨mq, hmq⟩ : ∃ mq, mq = l[q].b.mark := ⟨_, rfl⟩
          rw [← hmq] at HMQ htk hmn
          have tq : ((q : Nat) : Int) < (l.length : Int) := by omega
          clear hbel hx hnm hmq hMq
          by_cases hmm : mq = m
          · have t7 : (mq.toList == m.toList) = true := str_yes hmm
            have HQ : Hid (rightP t (l.map Bv.b) lots = false) := Lib.hid (by rw [HRP.out, HD.out, decide_eq_true (hmm ▸ hmn)]; simp)
            clear hmm htk hmn
            go_wp2_with fail
            refine Any.region_lit (fun
              | 0 => Any.val (.slice (some ⟨b, off, none⟩) l.length cb)
              | 1 => Any.val (.int .i64 (q : Int))
              | 2 => Any.val (.pointer (some ⟨b, off + q * 3, none⟩))
              | 3 => Any.val (.pointer (some ⟨b, off + q * 3, none⟩))
              | 4 => Any.val (.string mq)
              | 5 => Any.val (.pointer (some ⟨b8, 0, none⟩))
              | 6 => Any.val (.string m)
              | 7 => Any.val (.bool true)
              | _ => Any.idle) (by kernel_rfl) (by kernel_rfl) (by kernel_rfl) ?_ ?_ ?_
            · intro i _
              match i with
              | 0 => exact Any.lasts_val _
              | 1 => exact Any.lasts_val _
              | 2 => exact Any.lasts_val _
              | 3 => exact Any.lasts_val _
              | 4 => exact Any.lasts_val _
              | 5 => exact Any.lasts_val _
              | 6 => exact Any.lasts_val _
              | 7 => exact Any.lasts_val _
              | n + 8 => exact Any.lasts_idle
            · refine ⟨?_, ?_, ?_, ?_, ?_, ?_, ?_, ?_, trivial⟩
              · refine Any.owes_plain rfl fun ρ wo hs' hb hc' => ?_
                have h1 : ρ (.tmp 1) = .slice (some ⟨b, off, none⟩) l.length cb := hs'.old' 1 (by kernel_rfl)
                exact Any.ok_move (Any.post_val hb rfl h1)
              · refine Any.owes_plain rfl fun ρ wo hs' hb hc' => ?_
                have h9 : ρ (.tmp 9) = .int .i64 (q : Int) := hs'.old' 9 (by kernel_rfl)
                exact Any.ok_move (Any.post_val hb rfl h9)
              · refine Any.owes_plain rfl fun ρ wo hs' hb hc' => ?_
                have h54 : ρ (.tmp 54) = .slice (some ⟨b, off, none⟩) l.length cb := hs'.new' 54 0 (by kernel_rfl)
                have h55 : ρ (.tmp 55) = .int .i64 (q : Int) := hs'.new' 55 1 (by kernel_rfl)
                go_simp
                exact Any.post_val hb rfl rfl
              · refine Any.owes_plain rfl fun ρ wo hs' hb hc' => ?_
                have h56 : ρ (.tmp 56) = .pointer (some ⟨b, off + q * 3, none⟩) := hs'.new' 56 2 (by kernel_rfl)
                go_simp
                exact Any.post_val hb rfl rfl
              · refine Any.owes_plain rfl fun ρ wo hs' hb hc' => ?_
                have h57 : ρ (.tmp 57) = .pointer (some ⟨b, off + q * 3, none⟩) := hs'.new' 57 3 (by kernel_rfl)
                have c0 := HMQ.out wo (below_undrew hb)
                go_simp
                exact Any.post_val hb rfl rfl
              · refine Any.owes_plain rfl fun ρ wo hs' hb hc' => ?_
                have h8 : ρ (.tmp 8) = .pointer (some ⟨b8, 0, none⟩) := hs'.old' 8 (by kernel_rfl)
                go_simp
                exact Any.post_val hb rfl rfl
              · refine Any.owes_plain rfl fun ρ wo hs' hb hc' => ?_
                have h59 : ρ (.tmp 59) = .pointer (some ⟨b8, 0, none⟩) := hs'.new' 59 5 (by kernel_rfl)
                have c0 := cell_blk (blk (below_undrew hb) (lt_blk HMX.out) HMX.out) 0
                go_simp
                exact Any.post_val hb rfl rfl
              · refine Any.owes_plain rfl fun ρ wo hs' hb hc' => ?_
                have h58 : ρ (.tmp 58) = .string mq := hs'.new' 58 4 (by kernel_rfl)
                have h60 : ρ (.tmp 60) = .string m := hs'.new' 60 6 (by kernel_rfl)
                go_simp
                exact Any.post_val hb rfl rfl
            intro vals wY hb hk ha
            have h7 : vals 7 = .bool true := hk 7 (by kernel_rfl)
            have HBY := Lib.hid (HBX.out.trans (hb.mono HBX.out.size))
            have HMY := Lib.hid (blk hb (lt_blk HMX.out) HMX.out)
            clear hk ha hb
            simp only [Any.putAll]
            go_frame
            simp only [Nat.zero_add, Nat.reduceAdd]
            rw [h7]
            clear h7
            go_wp2_with fail
            go_ret
            exact retB HQ.out.symm HBY.out
          · have t7 : (mq.toList == m.toList) = false := str_no hmm
            have HNX : Hid (m ∉ M.take (q + 1)) := Lib.hid (by
              rw [htk]
              intro hm
              rcases List.mem_append.1 hm with h | h
              · exact HNM.out h
              · exact hmm (List.mem_singleton.1 h).symm)
            clear hmm htk hmn
            go_wp2_with fail
            refine Any.region_lit (fun
              | 0 => Any.val (.slice (some ⟨b, off, none⟩) l.length cb)
              | 1 => Any.val (.int .i64 (q : Int))
              | 2 => Any.val (.pointer (some ⟨b, off + q * 3, none⟩))
              | 3 => Any.val (.pointer (some ⟨b, off + q * 3, none⟩))
              | 4 => Any.val (.string mq)
              | 5 => Any.val (.pointer (some ⟨b8, 0, none⟩))
              | 6 => Any.val (.string m)
              | 7 => Any.val (.bool false)
              | _ => Any.idle) (by kernel_rfl) (by kernel_rfl) (by kernel_rfl) ?_ ?_ ?_
            · intro i _
              match i with
              | 0 => exact Any.lasts_val _
              | 1 => exact Any.lasts_val _
              | 2 => exact Any.lasts_val _
              | 3 => exact Any.lasts_val _
              | 4 => exact Any.lasts_val _
              | 5 => exact Any.lasts_val _
              | 6 => exact Any.lasts_val _
              | 7 => exact Any.lasts_val _
              | n + 8 => exact Any.lasts_idle
            · refine ⟨?_, ?_, ?_, ?_, ?_, ?_, ?_, ?_, trivial⟩
              · refine Any.owes_plain rfl fun ρ wo hs' hb hc' => ?_
                have h1 : ρ (.tmp 1) = .slice (some ⟨b, off, none⟩) l.length cb := hs'.old' 1 (by kernel_rfl)
                exact Any.ok_move (Any.post_val hb rfl h1)
              · refine Any.owes_plain rfl fun ρ wo hs' hb hc' => ?_
                have h9 : ρ (.tmp 9) = .int .i64 (q : Int) := hs'.old' 9 (by kernel_rfl)
                exact Any.ok_move (Any.post_val hb rfl h9)
              · refine Any.owes_plain rfl fun ρ wo hs' hb hc' => ?_
                have h54 : ρ (.tmp 54) = .slice (some ⟨b, off, none⟩) l.length cb := hs'.new' 54 0 (by kernel_rfl)
                have h55 : ρ (.tmp 55) = .int .i64 (q : Int) := hs'.new' 55 1 (by kernel_rfl)
                go_simp
                exact Any.post_val hb rfl rfl
              · refine Any.owes_plain rfl fun ρ wo hs' hb hc' => ?_
                have h56 : ρ (.tmp 56) = .pointer (some ⟨b, off + q * 3, none⟩) := hs'.new' 56 2 (by kernel_rfl)
                go_simp
                exact Any.post_val hb rfl rfl
              · refine Any.owes_plain rfl fun ρ wo hs' hb hc' => ?_
                have h57 : ρ (.tmp 57) = .pointer (some ⟨b, off + q * 3, none⟩) := hs'.new' 57 3 (by kernel_rfl)
                have c0 := HMQ.out wo (below_undrew hb)
                go_simp
                exact Any.post_val hb rfl rfl
              · refine Any.owes_plain rfl fun ρ wo hs' hb hc' => ?_
                have h8 : ρ (.tmp 8) = .pointer (some ⟨b8, 0, none⟩) := hs'.old' 8 (by kernel_rfl)
                go_simp
                exact Any.post_val hb rfl rfl
              · refine Any.owes_plain rfl fun ρ wo hs' hb hc' => ?_
                have h59 : ρ (.tmp 59) = .pointer (some ⟨b8, 0, none⟩) := hs'.new' 59 5 (by kernel_rfl)
                have c0 := cell_blk (blk (below_undrew hb) (lt_blk HMX.out) HMX.out) 0
                go_simp
                exact Any.post_val hb rfl rfl
              · refine Any.owes_plain rfl fun ρ wo hs' hb hc' => ?_
                have h58 : ρ (.tmp 58) = .string mq := hs'.new' 58 4 (by kernel_rfl)
                have h60 : ρ (.tmp 60) = .string m := hs'.new' 60 6 (by kernel_rfl)
                go_simp
                exact Any.post_val hb rfl rfl
            intro vals wY hb hk ha
            have h7 : vals 7 = .bool false := hk 7 (by kernel_rfl)
            have HBY := Lib.hid (HBX.out.trans (hb.mono HBX.out.size))
            have HMY := Lib.hid (blk hb (lt_blk HMX.out) HMX.out)
            clear hk ha hb
            simp only [Any.putAll]
            go_frame
            simp only [Nat.zero_add, Nat.reduceAdd]
            rw [h7]
            clear h7
            go_wp2_with fail
            go_roundw
            case rel => exact ⟨q + 1, by omega, by go_num, HNX.out, HMY.out, HBY.out⟩
            case measure => (simp [intOf]) <;> omega
        · obtain rfl : q = n := by omega
          have HDN : Hid (rightF t [] bs = rightF t (M.take (q + 1)) (bs.drop (q + 1))) := Lib.hid (by rw [HD.out, decide_eq_false hnm]; simp)
          clear hbel hx hnm
          go_wp2_with fail
          go_roundw
          case rel => exact ⟨q + 1, by omega, by go_num, HDN.out, HBX.out⟩
          case measure => (simp [intOf]) <;> omega
    · have HR : Hid (rightP t (l.map Bv.b) lots = decide (joinL (lotsV l) = joinL lots)) := Lib.hid (by rw [HRP.out, hd, List.drop_of_length_le (by omega)]; rfl)
      clear hd hbel
      go_wp2_with (first
        | ((with_reducible refine (HCO.out _ HBEL.out).mono ?_); rintro e w7 ⟨v7, rfl, ho7, hb7⟩; have HS7 := Lib.hid (own_lots ho7 rfl); have HB7 := Lib.hid (HBEL.out.trans (hb7.mono HBEL.out.size)); clear ho7 hb7)
        | ((with_reducible refine (HJN.out _ HB7.out).mono ?_); rintro e w8 ⟨v8, rfl, ho8, hb8⟩; have HS7 := Lib.hid (HS7.out.below hb8 (Nat.le_refl _)); have HS8 := Lib.hid (own_lots ho8 rfl); have HB8 := Lib.hid (HB7.out.trans (hb8.mono HB7.out.size)); clear ho8 hb8)
        | ((with_reducible refine (refSameL_any _ _ _ _ _ HS7.out HS8.out).mono ?_); rintro e w9 ⟨rfl, hb9⟩; have HB9 := Lib.hid (HB8.out.trans (hb9.mono HB8.out.size)); clear hb9)
        | fail)
      go_ret
      exact retB HR.out.symm HB9.out
end Go.Proofs.YtgnfdplphpejaaaGreatDoor.Sc
