/- May lots lie together: by the reference. -/
import Derived.Test.YtogkggmaibeboaaDoorRefSum11
import Derived.Test.YtogkggmaibeboaaDoorTog11
import Derived.Test.YtogkggmaibeboaaDoorRefApart11
namespace Go.Proofs.YtogkggmaibeboaaDoor.Sc
open Go Go.RowKit Go.ChangeShapes Go.WideShapes Go.ChangeAt
set_option maxRecDepth 100000

theorem apart_same (a : Int) : apartM a a = false := by
  cases h : apartM a a with
  | false => rfl
  | true => exact absurd rfl (apart_range h).2.2
theorem apL_iff : ∀ (L seen : List Int), apL seen L = true ↔ ∃ a ∈ L, (∃ b ∈ seen, apartM a b = true) ∨ ∃ b ∈ L, apartM a b = true
  | [], seen => by simp [apL]
  | a :: r, seen => by
    rw [apL, Bool.or_eq_true, apL_iff r (seen ++ [a]), List.any_eq_true]
    constructor
    · rintro (h | ⟨x, hx, ⟨b, hb, h⟩ | ⟨b, hb, h⟩⟩)
      · exact ⟨a, List.mem_cons_self, .inl h⟩
      · rcases List.mem_append.1 hb with h1 | h1
        · exact ⟨x, List.mem_cons_of_mem _ hx, .inl ⟨b, h1, h⟩⟩
        · obtain rfl := List.mem_singleton.1 h1
          exact ⟨x, List.mem_cons_of_mem _ hx, .inr ⟨b, List.mem_cons_self, h⟩⟩
      · exact ⟨x, List.mem_cons_of_mem _ hx, .inr ⟨b, List.mem_cons_of_mem _ hb, h⟩⟩
    · rintro ⟨x, hx, ⟨b, hb, h⟩ | ⟨b, hb, h⟩⟩
      · rcases List.mem_cons.1 hx with rfl | hx'
        · exact .inl ⟨b, hb, h⟩
        · exact .inr ⟨x, hx', .inl ⟨b, List.mem_append_left _ hb, h⟩⟩
      · rcases List.mem_cons.1 hx with e1 | hx'
        · rcases List.mem_cons.1 hb with e2 | hb'
          · rw [e1, e2, apart_same] at h; cases h
          · rw [apart_comm] at h
            exact .inr ⟨b, hb', .inl ⟨x, by rw [e1]; simp, h⟩⟩
        · rcases List.mem_cons.1 hb with e2 | hb'
          · exact .inr ⟨x, hx', .inl ⟨b, by rw [e2]; simp, h⟩⟩
          · exact .inr ⟨x, hx', .inr ⟨b, hb', h⟩⟩
def clsOf (t : List Gd) (x : Lt) : Int := match gOf t x.good with
  | some g => g.cls
  | none => -1
theorem cls_mem {t : List Gd} {l : List Lt} (h : ∀ x ∈ l, lotOk x = true ∧ ∃ g, gOf t x.good = some g) (hok : ∀ g ∈ t, gdOk g = true) (a : Int) : a ∈ l.map (clsOf t) ↔ a ∈ clsN t l 10 := by
  unfold clsN
  rw [List.mem_map, List.mem_map]
  constructor
  · rintro ⟨x, hx, rfl⟩
    obtain ⟨g, hg⟩ := (h x hx).2
    have h1 := gd_range (hok g (gOf_mem hg).1)
    refine ⟨g.cls.toNat, List.mem_filter.2 ⟨List.mem_range.2 (by omega), ?_⟩, ?_⟩
    · refine List.any_eq_true.2 ⟨x, hx, ?_⟩
      unfold isC
      rw [hg]
      exact decide_eq_true (by omega)
    · rw [clsOf, hg]
      show ((g.cls.toNat : Nat) : Int) = g.cls
      omega
  · rintro ⟨n, hn, rfl⟩
    obtain ⟨x, hx, h1⟩ := List.any_eq_true.1 (List.mem_filter.1 hn).2
    refine ⟨x, hx, ?_⟩
    unfold isC at h1
    obtain ⟨g, hg⟩ := (h x hx).2
    rw [hg] at h1
    rw [clsOf, hg]
    exact of_decide_eq_true h1
theorem apL_lots {t : List Gd} {l : List Lt} (h : ∀ x ∈ l, lotOk x = true ∧ ∃ g, gOf t x.good = some g) (hok : ∀ g ∈ t, gdOk g = true) : apL [] (l.map (clsOf t)) = apL [] (clsN t l 10) := by
  rw [Bool.eq_iff_iff, apL_iff, apL_iff]
  simp only [cls_mem h hok]
set_option maxHeartbeats 8000000 in
theorem refTogether_any (t : List Gd) (l : List Lt) (vt v : Value) (w : World) (hst : Sl w 4 vt (t.map Gd.row)) (hs : Sl w 2 v (l.map Lt.row)) (hf : ∀ x ∈ l, x.fit) (hok : ∀ g ∈ t, gdOk g = true) :
    Calls Tryd.prog 31 #[vt, v] w (Ret w (.int .i64 (togC t l))) := by
  have hll : l.length ≤ 9223372036854775807 := by have := hs.len_le; simp only [List.length_map, maxLen] at this; omega
  have HTH := Lib.hid (there_any t l vt v w hst hs hf)
  have HFI := Lib.hid (fun n W (hW : Below w.heap.size w W) => gFind_any t n vt W (hst.below hW (Nat.le_refl _)))
  obtain ⟨a, c, rfl⟩ : ∃ a c, v = .slice a l.length c := by simpa using hs.shape
  obtain ⟨at', ct, rfl⟩ : ∃ a c, vt = .slice a t.length c := by simpa using hst.shape
  have HS := Lib.hid hs
  have HST := Lib.hid hst
  clear hs hst hf
  by_cases h0 : lotsC t l = 0
  rotate_left
  · obtain ⟨e, he⟩ : ∃ e, e = lotsC t l := ⟨_, rfl⟩
    have HQ : Hid (togC t l = e) := Lib.hid (by rw [togC, if_neg h0, he])
    rw [← he] at HTH h0
    have te : (e != 0) = true := by simp [h0]
    clear h0 he
    go_enter Tryd.func31, Tryd.ntmps31
    go_wp2_with (first
      | ((with_reducible refine HTH.out.mono ?_); rintro e' w2 ⟨rfl, hb2⟩; have HB := Lib.hid hb2; clear hb2)
      | fail)
    go_ret
    exact ⟨by rw [HQ.out]; rfl, HB.out⟩
  have HLO := Lib.hid (lotsC_ok h0)
  obtain ⟨L, hL⟩ : ∃ L, L = l.map (clsOf t) := ⟨_, rfl⟩
  have HV : Hid (togC t l = if apL [] L = true then 12 else 0) := Lib.hid (by rw [togC, if_pos h0, hL, apL_lots HLO.out hok])
  have HLL : Hid (L.length = l.length) := Lib.hid (by rw [hL, List.length_map])
  have HLG : Hid (∀ k (h1 : k < L.length) (h2 : k < l.length), ∃ j, ∃ hj : j < t.length, gFind l[k].good 0 t = ((j : Nat) : Int) ∧ L[k] = t[j].cls) := Lib.hid (fun k h1 h2 => by
    obtain ⟨g, hg⟩ := (HLO.out l[k] (List.getElem_mem h2)).2
    rcases gFind_of l[k].good t 0 with ⟨e1, e2⟩ | ⟨j, hj, e1, e2⟩
    · rw [hg] at e2; cases e2
    · refine ⟨j, hj, by rw [e1, Nat.zero_add], ?_⟩
      simp only [hL, List.getElem_map, clsOf, e2])
  rw [h0] at HTH
  clear h0 hL hok
  go_enter Tryd.func31, Tryd.ntmps31
  go_wp2_with (first
    | ((with_reducible refine HTH.out.mono ?_); rintro e' w2 ⟨rfl, hb2⟩; have HBK := Lib.hid hb2; clear hb2)
    | fail)
  go_loopw [6, 7] (fun i _ wr => ∃ k : Nat, k ≤ l.length ∧ i = .int .i64 k ∧ apL [] L = apL (L.take k) (L.drop k) ∧ Below w.heap.size w wr) (fun i _ _ => l.length - (intOf i).toNat)
  case atStart => exact ⟨0, Nat.zero_le _, rfl, rfl, HBK.out⟩
  case round =>
    obtain ⟨k, hk, rfl, hrel, hbel⟩ := hrel
    have HBEL := Lib.hid hbel
    by_cases hlt : k < l.length
    · have hLk : k < L.length := by rw [HLL.out]; exact hlt
      obtain ⟨b, off, rfl, -, hb, hc⟩ := HS.out.at (i := k) (by simpa using hlt)
      have HDC := Lib.hid (fun j (hj : j < l.length) W (hW : Below w.heap.size w W) => (hW.cell (p := ⟨b, off + j * 2, none⟩) hb).trans (hc j l[j].row (by simp [hj]) 0 _ rfl))
      have HDX := Lib.hid (HDC.out k hlt)
      obtain ⟨j, hj, hf1, hf2⟩ := HLG.out k hLk hlt
      have HFX := Lib.hid (HFI.out l[k].good)
      rw [hf1] at HFX
      obtain ⟨bg, offg, rfl, -, hbg, hcg⟩ := HST.out.at (i := j) (by simpa using hj)
      have HGC := Lib.hid (fun j (hj : j < t.length) W (hW : Below w.heap.size w W) => (hW.cell (p := ⟨bg, offg + j * 4 + 1, none⟩) hbg).trans (hcg j t[j].row (by simp [hj]) 1 _ rfl))
      have HGX := Lib.hid (HGC.out j hj)
      rw [apL_next hLk] at hrel
      have HR := Lib.hid hrel
      rw [← hf2] at HGX
      generalize L[k] = xg at *
      have HHK := Lib.hid (And.intro hlt (And.intro hk hLk))
      have tj : ((j : Nat) : Int) < (t.length : Int) := by omega
      have tk : ((k : Nat) : Int) < (l.length : Int) := by omega
      generalize l[k].good = xn at *
      clear hc hcg hrel hb hbg hf1 hf2 hbel hk hLk
      go_wp2_with fail
      go_loopw [7] (fun i wr => ∃ m : Nat, m ≤ k ∧ i = .int .i64 m ∧ (L.take k).any (apartM xg) = ((L.take k).drop m).any (apartM xg) ∧ Below w.heap.size w wr) (fun i _ => k - (intOf i).toNat)
      case atStart => exact ⟨0, Nat.zero_le _, rfl, rfl, HBEL.out⟩
      case round =>
        obtain ⟨m, hm, rfl, hrel, hbel⟩ := hrel
        have HB := Lib.hid hbel
        by_cases hlm : m < k
        · have hml : m < (L.take k).length := by rw [List.length_take]; have := HHK.out.2.2; omega
          rw [any_dropI hml] at hrel
          have hmL : m < L.length := by have := HHK.out.2.2; omega
          have hml' : m < l.length := by omega
          have he : (L.take k)[m] = L[m] := List.getElem_take
          rw [he] at hrel
          obtain ⟨i, hi, hf1, hf2⟩ := HLG.out m hmL hml'
          have HFY := Lib.hid (HFI.out l[m].good)
          rw [hf1] at HFY
          have HDY := Lib.hid (HDC.out m hml')
          have HGY := Lib.hid (HGC.out i hi)
          rw [← hf2] at HGY
          have ti : ((i : Nat) : Int) < (t.length : Int) := by omega
          generalize L[m] = yg at *
          generalize l[m].good = yn at *
          have HP := Lib.hid (fun W => refApart_any xg yg W)
          have tm : ((m : Nat) : Int) < (k : Int) := by omega
          have tml : ((m : Nat) : Int) < (l.length : Int) := by omega
          clear he hml hbel hf1 hf2 hmL hml'
          cases ha : apartM xg yg
          · rw [ha] at HP hrel
            have HRR := Lib.hid hrel
            clear ha hrel
            go_wp2_with fail
            refine Any.region_lit (fun
              | 0 => Any.val (.slice (some ⟨bg, offg, none⟩) t.length ct)
              | 1 => Any.val (.slice (some ⟨bg, offg, none⟩) t.length ct)
              | 2 => Any.val (.slice (some ⟨b, off, none⟩) l.length c)
              | 3 => Any.val (.int .i64 (k : Int))
              | 4 => Any.val (.pointer (some ⟨b, off + k * 2, none⟩))
              | 5 => Any.val (.pointer (some ⟨b, off + k * 2, none⟩))
              | 6 => Any.val (.string xn)
              | 7 => Any.val (.int .i64 (j : Int))
              | 8 => Any.val (.pointer (some ⟨bg, offg + j * 4, none⟩))
              | 9 => Any.val (.pointer (some ⟨bg, offg + j * 4 + 1, none⟩))
              | 10 => Any.val (.int .i64 xg)
              | 11 => Any.val (.slice (some ⟨bg, offg, none⟩) t.length ct)
              | 12 => Any.val (.slice (some ⟨bg, offg, none⟩) t.length ct)
              | 13 => Any.val (.slice (some ⟨b, off, none⟩) l.length c)
              | 14 => Any.val (.int .i64 (m : Int))
              | 15 => Any.val (.pointer (some ⟨b, off + m * 2, none⟩))
              | 16 => Any.val (.pointer (some ⟨b, off + m * 2, none⟩))
              | 17 => Any.val (.string yn)
              | 18 => Any.val (.int .i64 (i : Int))
              | 19 => Any.val (.pointer (some ⟨bg, offg + i * 4, none⟩))
              | 20 => Any.val (.pointer (some ⟨bg, offg + i * 4 + 1, none⟩))
              | 21 => Any.val (.int .i64 yg)
              | 22 => Any.val (.bool false)
              | _ => Any.idle) (by kernel_rfl) (by kernel_rfl) (by kernel_rfl) ?_ ?_ ?_
            · intro i _
              match i with
              | 0 => exact Any.lasts_val _
              | 1 => exact Any.lasts_val _
              | 2 => exact Any.lasts_val _
              | 3 => exact Any.lasts_val _
              | 4 => exact Any.lasts_val _
              | 5 => exact Any.lasts_val _
              | 6 => exact Any.lasts_val _
              | 7 => exact Any.lasts_val _
              | 8 => exact Any.lasts_val _
              | 9 => exact Any.lasts_val _
              | 10 => exact Any.lasts_val _
              | 11 => exact Any.lasts_val _
              | 12 => exact Any.lasts_val _
              | 13 => exact Any.lasts_val _
              | 14 => exact Any.lasts_val _
              | 15 => exact Any.lasts_val _
              | 16 => exact Any.lasts_val _
              | 17 => exact Any.lasts_val _
              | 18 => exact Any.lasts_val _
              | 19 => exact Any.lasts_val _
              | 20 => exact Any.lasts_val _
              | 21 => exact Any.lasts_val _
              | 22 => exact Any.lasts_val _
              | n + 23 => exact Any.lasts_idle
            · refine ⟨?_, ?_, ?_, ?_, ?_, ?_, ?_, ?_, ?_, ?_, ?_, ?_, ?_, ?_, ?_, ?_, ?_, ?_, ?_, ?_, ?_, ?_, ?_, trivial⟩
              · refine Any.owes_plain rfl fun ρ wo hs' hb hc' => ?_
                have h0 : ρ (.tmp 0) = .slice (some ⟨bg, offg, none⟩) t.length ct := hs'.old' 0 (by kernel_rfl)
                exact Any.ok_move (Any.post_val hb rfl h0)
              · refine Any.owes_plain rfl fun ρ wo hs' hb hc' => ?_
                have h0 : ρ (.tmp 0) = .slice (some ⟨bg, offg, none⟩) t.length ct := hs'.old' 0 (by kernel_rfl)
                exact Any.ok_move (Any.post_val hb rfl h0)
              · refine Any.owes_plain rfl fun ρ wo hs' hb hc' => ?_
                have h1 : ρ (.tmp 1) = .slice (some ⟨b, off, none⟩) l.length c := hs'.old' 1 (by kernel_rfl)
                exact Any.ok_move (Any.post_val hb rfl h1)
              · refine Any.owes_plain rfl fun ρ wo hs' hb hc' => ?_
                have h6 : ρ (.tmp 6) = .int .i64 (k : Int) := hs'.old' 6 (by kernel_rfl)
                exact Any.ok_move (Any.post_val hb rfl h6)
              · refine Any.owes_plain rfl fun ρ wo hs' hb hc' => ?_
                have h27 : ρ (.tmp 27) = .slice (some ⟨b, off, none⟩) l.length c := hs'.new' 27 2 (by kernel_rfl)
                have h28 : ρ (.tmp 28) = .int .i64 (k : Int) := hs'.new' 28 3 (by kernel_rfl)
                go_simp
                exact Any.post_val hb rfl rfl
              · refine Any.owes_plain rfl fun ρ wo hs' hb hc' => ?_
                have h29 : ρ (.tmp 29) = .pointer (some ⟨b, off + k * 2, none⟩) := hs'.new' 29 4 (by kernel_rfl)
                go_simp
                exact Any.post_val hb rfl rfl
              · refine Any.owes_plain rfl fun ρ wo hs' hb hc' => ?_
                have h30 : ρ (.tmp 30) = .pointer (some ⟨b, off + k * 2, none⟩) := hs'.new' 30 5 (by kernel_rfl)
                have c0 := HDX.out wo (HB.out.trans ((below_undrew hb).mono HB.out.size))
                go_simp
                exact Any.post_val hb rfl rfl
              · refine Any.owes_plain rfl fun ρ wo hs' hb hc' => ?_
                have h26 : ρ (.tmp 26) = .slice (some ⟨bg, offg, none⟩) t.length ct := hs'.new' 26 1 (by kernel_rfl)
                have h31 : ρ (.tmp 31) = .string xn := hs'.new' 31 6 (by kernel_rfl)
                have hf := hs'.func 22
                go_simp
                exact (HFX.out wo (HB.out.trans ((below_undrew hb).mono HB.out.size))).mono fun e w' ⟨he, hb'⟩ => ⟨_, he, Any.post_vals hb rfl rfl hb'⟩
              · refine Any.owes_plain rfl fun ρ wo hs' hb hc' => ?_
                have h25 : ρ (.tmp 25) = .slice (some ⟨bg, offg, none⟩) t.length ct := hs'.new' 25 0 (by kernel_rfl)
                have h32 : ρ (.tmp 32) = .int .i64 (j : Int) := hs'.new' 32 7 (by kernel_rfl)
                go_simp
                exact Any.post_val hb rfl rfl
              · refine Any.owes_plain rfl fun ρ wo hs' hb hc' => ?_
                have h33 : ρ (.tmp 33) = .pointer (some ⟨bg, offg + j * 4, none⟩) := hs'.new' 33 8 (by kernel_rfl)
                go_simp
                exact Any.post_val hb rfl rfl
              · refine Any.owes_plain rfl fun ρ wo hs' hb hc' => ?_
                have h34 : ρ (.tmp 34) = .pointer (some ⟨bg, offg + j * 4 + 1, none⟩) := hs'.new' 34 9 (by kernel_rfl)
                have c0 := HGX.out wo (HB.out.trans ((below_undrew hb).mono HB.out.size))
                go_simp
                exact Any.post_val hb rfl rfl
              · refine Any.owes_plain rfl fun ρ wo hs' hb hc' => ?_
                have h0 : ρ (.tmp 0) = .slice (some ⟨bg, offg, none⟩) t.length ct := hs'.old' 0 (by kernel_rfl)
                exact Any.ok_move (Any.post_val hb rfl h0)
              · refine Any.owes_plain rfl fun ρ wo hs' hb hc' => ?_
                have h0 : ρ (.tmp 0) = .slice (some ⟨bg, offg, none⟩) t.length ct := hs'.old' 0 (by kernel_rfl)
                exact Any.ok_move (Any.post_val hb rfl h0)
              · refine Any.owes_plain rfl fun ρ wo hs' hb hc' => ?_
                have h1 : ρ (.tmp 1) = .slice (some ⟨b, off, none⟩) l.length c := hs'.old' 1 (by kernel_rfl)
                exact Any.ok_move (Any.post_val hb rfl h1)
              · refine Any.owes_plain rfl fun ρ wo hs' hb hc' => ?_
                have h7 : ρ (.tmp 7) = .int .i64 (m : Int) := hs'.old' 7 (by kernel_rfl)
                exact Any.ok_move (Any.post_val hb rfl h7)
              · refine Any.owes_plain rfl fun ρ wo hs' hb hc' => ?_
                have h38 : ρ (.tmp 38) = .slice (some ⟨b, off, none⟩) l.length c := hs'.new' 38 13 (by kernel_rfl)
                have h39 : ρ (.tmp 39) = .int .i64 (m : Int) := hs'.new' 39 14 (by kernel_rfl)
                go_simp
                exact Any.post_val hb rfl rfl
              · refine Any.owes_plain rfl fun ρ wo hs' hb hc' => ?_
                have h40 : ρ (.tmp 40) = .pointer (some ⟨b, off + m * 2, none⟩) := hs'.new' 40 15 (by kernel_rfl)
                go_simp
                exact Any.post_val hb rfl rfl
              · refine Any.owes_plain rfl fun ρ wo hs' hb hc' => ?_
                have h41 : ρ (.tmp 41) = .pointer (some ⟨b, off + m * 2, none⟩) := hs'.new' 41 16 (by kernel_rfl)
                have c0 := HDY.out wo (HB.out.trans ((below_undrew hb).mono HB.out.size))
                go_simp
                exact Any.post_val hb rfl rfl
              · refine Any.owes_plain rfl fun ρ wo hs' hb hc' => ?_
                have h37 : ρ (.tmp 37) = .slice (some ⟨bg, offg, none⟩) t.length ct := hs'.new' 37 12 (by kernel_rfl)
                have h42 : ρ (.tmp 42) = .string yn := hs'.new' 42 17 (by kernel_rfl)
                have hf := hs'.func 22
                go_simp
                exact (HFY.out wo (HB.out.trans ((below_undrew hb).mono HB.out.size))).mono fun e w' ⟨he, hb'⟩ => ⟨_, he, Any.post_vals hb rfl rfl hb'⟩
              · refine Any.owes_plain rfl fun ρ wo hs' hb hc' => ?_
                have h36 : ρ (.tmp 36) = .slice (some ⟨bg, offg, none⟩) t.length ct := hs'.new' 36 11 (by kernel_rfl)
                have h43 : ρ (.tmp 43) = .int .i64 (i : Int) := hs'.new' 43 18 (by kernel_rfl)
                go_simp
                exact Any.post_val hb rfl rfl
              · refine Any.owes_plain rfl fun ρ wo hs' hb hc' => ?_
                have h44 : ρ (.tmp 44) = .pointer (some ⟨bg, offg + i * 4, none⟩) := hs'.new' 44 19 (by kernel_rfl)
                go_simp
                exact Any.post_val hb rfl rfl
              · refine Any.owes_plain rfl fun ρ wo hs' hb hc' => ?_
                have h45 : ρ (.tmp 45) = .pointer (some ⟨bg, offg + i * 4 + 1, none⟩) := hs'.new' 45 20 (by kernel_rfl)
                have c0 := HGY.out wo (HB.out.trans ((below_undrew hb).mono HB.out.size))
                go_simp
                exact Any.post_val hb rfl rfl
              · refine Any.owes_plain rfl fun ρ wo hs' hb hc' => ?_
                have h35 : ρ (.tmp 35) = .int .i64 xg := hs'.new' 35 10 (by kernel_rfl)
                have h46 : ρ (.tmp 46) = .int .i64 yg := hs'.new' 46 21 (by kernel_rfl)
                have hf := hs'.func 12
                go_simp
                exact (HP.out wo).mono fun e w' ⟨he, hb'⟩ => ⟨_, he, Any.post_vals hb rfl rfl hb'⟩
            · intro vals w6 hb hk ha
              have h22 : vals 22 = .bool false := hk 22 (by kernel_rfl)
              have HB6 := Lib.hid (HB.out.trans (hb.mono HB.out.size))
              clear hk ha hb
              simp only [Any.putAll]
              go_frame
              simp only [Nat.zero_add, Nat.reduceAdd]
              rw [h22]
              clear h22
              go_wp2_with fail
              go_roundw
              case rel => exact ⟨m + 1, by omega, by go_num, by rw [HRR.out, Bool.false_or], HB6.out⟩
              case measure => (simp [intOf]) <;> omega
          · rw [ha] at HP hrel
            have HQ : Hid (togC t l = 12) := Lib.hid (by rw [HV.out, if_pos]; rw [HR.out, hrel]; rfl)
            clear ha hrel
            go_wp2_with fail
            refine Any.region_lit (fun
              | 0 => Any.val (.slice (some ⟨bg, offg, none⟩) t.length ct)
              | 1 => Any.val (.slice (some ⟨bg, offg, none⟩) t.length ct)
              | 2 => Any.val (.slice (some ⟨b, off, none⟩) l.length c)
              | 3 => Any.val (.int .i64 (k : Int))
              | 4 => Any.val (.pointer (some ⟨b, off + k * 2, none⟩))
              | 5 => Any.val (.pointer (some ⟨b, off + k * 2, none⟩))
              | 6 => Any.val (.string xn)
              | 7 => Any.val (.int .i64 (j : Int))
              | 8 => Any.val (.pointer (some ⟨bg, offg + j * 4, none⟩))
              | 9 => Any.val (.pointer (some ⟨bg, offg + j * 4 + 1, none⟩))
              | 10 => Any.val (.int .i64 xg)
              | 11 => Any.val (.slice (some ⟨bg, offg, none⟩) t.length ct)
              | 12 => Any.val (.slice (some ⟨bg, offg, none⟩) t.length ct)
              | 13 => Any.val (.slice (some ⟨b, off, none⟩) l.length c)
              | 14 => Any.val (.int .i64 (m : Int))
              | 15 => Any.val (.pointer (some ⟨b, off + m * 2, none⟩))
              | 16 => Any.val (.pointer (some ⟨b, off + m * 2, none⟩))
              | 17 => Any.val (.string yn)
              | 18 => Any.val (.int .i64 (i : Int))
              | 19 => Any.val (.pointer (some ⟨bg, offg + i * 4, none⟩))
              | 20 => Any.val (.pointer (some ⟨bg, offg + i * 4 + 1, none⟩))
              | 21 => Any.val (.int .i64 yg)
              | 22 => Any.val (.bool true)
              | _ => Any.idle) (by kernel_rfl) (by kernel_rfl) (by kernel_rfl) ?_ ?_ ?_
            · intro i _
              match i with
              | 0 => exact Any.lasts_val _
              | 1 => exact Any.lasts_val _
              | 2 => exact Any.lasts_val _
              | 3 => exact Any.lasts_val _
              | 4 => exact Any.lasts_val _
              | 5 => exact Any.lasts_val _
              | 6 => exact Any.lasts_val _
              | 7 => exact Any.lasts_val _
              | 8 => exact Any.lasts_val _
              | 9 => exact Any.lasts_val _
              | 10 => exact Any.lasts_val _
              | 11 => exact Any.lasts_val _
              | 12 => exact Any.lasts_val _
              | 13 => exact Any.lasts_val _
              | 14 => exact Any.lasts_val _
              | 15 => exact Any.lasts_val _
              | 16 => exact Any.lasts_val _
              | 17 => exact Any.lasts_val _
              | 18 => exact Any.lasts_val _
              | 19 => exact Any.lasts_val _
              | 20 => exact Any.lasts_val _
              | 21 => exact Any.lasts_val _
              | 22 => exact Any.lasts_val _
              | n + 23 => exact Any.lasts_idle
            · refine ⟨?_, ?_, ?_, ?_, ?_, ?_, ?_, ?_, ?_, ?_, ?_, ?_, ?_, ?_, ?_, ?_, ?_, ?_, ?_, ?_, ?_, ?_, ?_, trivial⟩
              · refine Any.owes_plain rfl fun ρ wo hs' hb hc' => ?_
                have h0 : ρ (.tmp 0) = .slice (some ⟨bg, offg, none⟩) t.length ct := hs'.old' 0 (by kernel_rfl)
                exact Any.ok_move (Any.post_val hb rfl h0)
              · refine Any.owes_plain rfl fun ρ wo hs' hb hc' => ?_
                have h0 : ρ (.tmp 0) = .slice (some ⟨bg, offg, none⟩) t.length ct := hs'.old' 0 (by kernel_rfl)
                exact Any.ok_move (Any.post_val hb rfl h0)
              · refine Any.owes_plain rfl fun ρ wo hs' hb hc' => ?_
                have h1 : ρ (.tmp 1) = .slice (some ⟨b, off, none⟩) l.length c := hs'.old' 1 (by kernel_rfl)
                exact Any.ok_move (Any.post_val hb rfl h1)
              · refine Any.owes_plain rfl fun ρ wo hs' hb hc' => ?_
                have h6 : ρ (.tmp 6) = .int .i64 (k : Int) := hs'.old' 6 (by kernel_rfl)
                exact Any.ok_move (Any.post_val hb rfl h6)
              · refine Any.owes_plain rfl fun ρ wo hs' hb hc' => ?_
                have h27 : ρ (.tmp 27) = .slice (some ⟨b, off, none⟩) l.length c := hs'.new' 27 2 (by kernel_rfl)
                have h28 : ρ (.tmp 28) = .int .i64 (k : Int) := hs'.new' 28 3 (by kernel_rfl)
                go_simp
                exact Any.post_val hb rfl rfl
              · refine Any.owes_plain rfl fun ρ wo hs' hb hc' => ?_
                have h29 : ρ (.tmp 29) = .pointer (some ⟨b, off + k * 2, none⟩) := hs'.new' 29 4 (by kernel_rfl)
                go_simp
                exact Any.post_val hb rfl rfl
              · refine Any.owes_plain rfl fun ρ wo hs' hb hc' => ?_
                have h30 : ρ (.tmp 30) = .pointer (some ⟨b, off + k * 2, none⟩) := hs'.new' 30 5 (by kernel_rfl)
                have c0 := HDX.out wo (HB.out.trans ((below_undrew hb).mono HB.out.size))
                go_simp
                exact Any.post_val hb rfl rfl
              · refine Any.owes_plain rfl fun ρ wo hs' hb hc' => ?_
                have h26 : ρ (.tmp 26) = .slice (some ⟨bg, offg, none⟩) t.length ct := hs'.new' 26 1 (by kernel_rfl)
                have h31 : ρ (.tmp 31) = .string xn := hs'.new' 31 6 (by kernel_rfl)
                have hf := hs'.func 22
                go_simp
                exact (HFX.out wo (HB.out.trans ((below_undrew hb).mono HB.out.size))).mono fun e w' ⟨he, hb'⟩ => ⟨_, he, Any.post_vals hb rfl rfl hb'⟩
              · refine Any.owes_plain rfl fun ρ wo hs' hb hc' => ?_
                have h25 : ρ (.tmp 25) = .slice (some ⟨bg, offg, none⟩) t.length ct := hs'.new' 25 0 (by kernel_rfl)
                have h32 : ρ (.tmp 32) = .int .i64 (j : Int) := hs'.new' 32 7 (by kernel_rfl)
                go_simp
                exact Any.post_val hb rfl rfl
              · refine Any.owes_plain rfl fun ρ wo hs' hb hc' => ?_
                have h33 : ρ (.tmp 33) = .pointer (some ⟨bg, offg + j * 4, none⟩) := hs'.new' 33 8 (by kernel_rfl)
                go_simp
                exact Any.post_val hb rfl rfl
              · refine Any.owes_plain rfl fun ρ wo hs' hb hc' => ?_
                have h34 : ρ (.tmp 34) = .pointer (some ⟨bg, offg + j * 4 + 1, none⟩) := hs'.new' 34 9 (by kernel_rfl)
                have c0 := HGX.out wo (HB.out.trans ((below_undrew hb).mono HB.out.size))
                go_simp
                exact Any.post_val hb rfl rfl
              · refine Any.owes_plain rfl fun ρ wo hs' hb hc' => ?_
                have h0 : ρ (.tmp 0) = .slice (some ⟨bg, offg, none⟩) t.length ct := hs'.old' 0 (by kernel_rfl)
                exact Any.ok_move (Any.post_val hb rfl h0)
              · refine Any.owes_plain rfl fun ρ wo hs' hb hc' => ?_
                have h0 : ρ (.tmp 0) = .slice (some ⟨bg, offg, none⟩) t.length ct := hs'.old' 0 (by kernel_rfl)
                exact Any.ok_move (Any.post_val hb rfl h0)
              · refine Any.owes_plain rfl fun ρ wo hs' hb hc' => ?_
                have h1 : ρ (.tmp 1) = .slice (some ⟨b, off, none⟩) l.length c := hs'.old' 1 (by kernel_rfl)
                exact Any.ok_move (Any.post_val hb rfl h1)
              · refine Any.owes_plain rfl fun ρ wo hs' hb hc' => ?_
                have h7 : ρ (.tmp 7) = .int .i64 (m : Int) := hs'.old' 7 (by kernel_rfl)
                exact Any.ok_move (Any.post_val hb rfl h7)
              · refine Any.owes_plain rfl fun ρ wo hs' hb hc' => ?_
                have h38 : ρ (.tmp 38) = .slice (some ⟨b, off, none⟩) l.length c := hs'.new' 38 13 (by kernel_rfl)
                have h39 : ρ (.tmp 39) = .int .i64 (m : Int) := hs'.new' 39 14 (by kernel_rfl)
                go_simp
                exact Any.post_val hb rfl rfl
              · refine Any.owes_plain rfl fun ρ wo hs' hb hc' => ?_
                have h40 : ρ (.tmp 40) = .pointer (some ⟨b, off + m * 2, none⟩) := hs'.new' 40 15 (by kernel_rfl)
                go_simp
                exact Any.post_val hb rfl rfl
              · refine Any.owes_plain rfl fun ρ wo hs' hb hc' => ?_
                have h41 : ρ (.tmp 41) = .pointer (some ⟨b, off + m * 2, none⟩) := hs'.new' 41 16 (by kernel_rfl)
                have c0 := HDY.out wo (HB.out.trans ((below_undrew hb).mono HB.out.size))
                go_simp
                exact Any.post_val hb rfl rfl
              · refine Any.owes_plain rfl fun ρ wo hs' hb hc' => ?_
                have h37 : ρ (.tmp 37) = .slice (some ⟨bg, offg, none⟩) t.length ct := hs'.new' 37 12 (by kernel_rfl)
                have h42 : ρ (.tmp 42) = .string yn := hs'.new' 42 17 (by kernel_rfl)
                have hf := hs'.func 22
                go_simp
                exact (HFY.out wo (HB.out.trans ((below_undrew hb).mono HB.out.size))).mono fun e w' ⟨he, hb'⟩ => ⟨_, he, Any.post_vals hb rfl rfl hb'⟩
              · refine Any.owes_plain rfl fun ρ wo hs' hb hc' => ?_
                have h36 : ρ (.tmp 36) = .slice (some ⟨bg, offg, none⟩) t.length ct := hs'.new' 36 11 (by kernel_rfl)
                have h43 : ρ (.tmp 43) = .int .i64 (i : Int) := hs'.new' 43 18 (by kernel_rfl)
                go_simp
                exact Any.post_val hb rfl rfl
              · refine Any.owes_plain rfl fun ρ wo hs' hb hc' => ?_
                have h44 : ρ (.tmp 44) = .pointer (some ⟨bg, offg + i * 4, none⟩) := hs'.new' 44 19 (by kernel_rfl)
                go_simp
                exact Any.post_val hb rfl rfl
              · refine Any.owes_plain rfl fun ρ wo hs' hb hc' => ?_
                have h45 : ρ (.tmp 45) = .pointer (some ⟨bg, offg + i * 4 + 1, none⟩) := hs'.new' 45 20 (by kernel_rfl)
                have c0 := HGY.out wo (HB.out.trans ((below_undrew hb).mono HB.out.size))
                go_simp
                exact Any.post_val hb rfl rfl
              · refine Any.owes_plain rfl fun ρ wo hs' hb hc' => ?_
                have h35 : ρ (.tmp 35) = .int .i64 xg := hs'.new' 35 10 (by kernel_rfl)
                have h46 : ρ (.tmp 46) = .int .i64 yg := hs'.new' 46 21 (by kernel_rfl)
                have hf := hs'.func 12
                go_simp
                exact (HP.out wo).mono fun e w' ⟨he, hb'⟩ => ⟨_, he, Any.post_vals hb rfl rfl hb'⟩
            · intro vals w6 hb hk ha
              have h22 : vals 22 = .bool true := hk 22 (by kernel_rfl)
              have HB6 := Lib.hid (HB.out.trans (hb.mono HB.out.size))
              clear hk ha hb
              simp only [Any.putAll]
              go_frame
              simp only [Nat.zero_add, Nat.reduceAdd]
              rw [h22]
              clear h22
              go_wp2_with fail
              go_ret
              exact ⟨by rw [HQ.out]; rfl, HB6.out⟩
        · have HRR : Hid (apL [] L = apL (L.take (k + 1)) (L.drop (k + 1))) := Lib.hid (by
            rw [HR.out, hrel, List.drop_of_length_le (by rw [List.length_take]; omega)]; rfl)
          clear hrel hbel
          go_wp2_with fail
          go_roundw
          case rel => exact ⟨k + 1, HHK.out.1, by go_num, HRR.out, HB.out⟩
          case measure => have := HHK.out.1; (simp [intOf]) <;> omega
    · have HQ : Hid (togC t l = 0) := Lib.hid (by
        rw [HV.out, if_neg]
        rw [hrel, List.drop_of_length_le (by have := HLL.out; omega)]
        exact Bool.false_ne_true)
      clear hrel hbel
      go_wp2_with fail
      go_ret
      exact ⟨by rw [HQ.out]; rfl, HBEL.out⟩
end Go.Proofs.YtogkggmaibeboaaDoor.Sc
