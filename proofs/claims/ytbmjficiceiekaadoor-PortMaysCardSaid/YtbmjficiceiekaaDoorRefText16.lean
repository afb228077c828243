/- The reference's Text. -/
import Derived.Test.YtbmjficiceiekaaDoorDig16
import Derived.Test.YtbmjficiceiekaaDoorRefMay16
namespace Go.Proofs.YtbmjficiceiekaaDoor.Sc
open Go Go.RowKit Go.ChangeShapes Go.WideShapes Go.ChangeAt
set_option maxRecDepth 100000

theorem digitsI_any (n : Int) (h0 : 0 ≤ n) (h1 : n ≤ 1048576) (w : World) : Calls Tryd.prog 43 #[.int .i64 n] w (Ret w (.string (txt (Lib.itoa n)))) := by
  obtain ⟨m, rfl⟩ : ∃ m : Nat, n = (m : Int) := ⟨n.toNat, by omega⟩
  exact digits_any m (by omega) w
theorem txt_data (s : ByteArray) : txt s.data.toList = s := by
  apply ByteArray.ext
  simp [txt]
theorem clT_txt (t : List UInt8) (cp : ByteArray) (cu ca cd : Int) : txt t ++ ⟨#[32]⟩ ++ cp ++ ⟨#[64]⟩ ++ txt (Lib.itoa ca) ++ ⟨#[45]⟩ ++ txt (Lib.itoa cd) ++ ⟨#[47]⟩ ++ txt (Lib.itoa cu) = txt (t ++ clT ⟨cp, cu, ca, cd⟩) := by
  apply ByteArray.ext
  apply Array.toList_inj.1
  simp only [ba_append, clT, txt]
  simp
set_option maxHeartbeats 8000000 in
theorem refText_any (s : ByteArray) (v : Value) (l : List Cl) (w : World) (hs : Sl w 4 v (l.map Cl.row)) (hm : s.size ≤ 9223372036854775807) (hmc : ∀ x ∈ l, x.port.size ≤ 9223372036854775807) : Calls Tryd.prog 24 #[.agg #[.string s, v]] w (Ret w (.string (textV s l))) := by
  have hll : l.length ≤ 9223372036854775807 := by have := hs.len_le; simp only [List.length_map, maxLen] at this; omega
  obtain ⟨a, c, rfl⟩ : ∃ a c, v = .slice a l.length c := by simpa using hs.shape
  have HS := Lib.hid hs
  have HX0 := Lib.hid (heap_alloc_new w (.cells #[.string s, .slice a l.length c] 32))
  have z0 := cell_blk HX0.out 0
  have z1 := cell_blk HX0.out 1
  have HMY := Lib.hid (refMayP_any s (.slice a l.length c) l (w.alloc (.cells #[.string s, .slice a l.length c] 32)) (hs.below (one_below _ _) (Nat.le_refl _)) hm hmc)
  have HTV : Hid (textV s l = if mayV s l = true then txt (textL s l) else ⟨#[]⟩) := Lib.hid rfl
  have HMV : Hid (mayV s l = true → (∀ x ∈ l, okC x = true) ∧ l.length ≤ 64 ∧ s.size ≤ 16) := Lib.hid (fun h => by
    have h2 := mayV_cs h
    refine ⟨fun x hx => ?_, h2.2.2.1, ?_⟩
    · obtain ⟨i, hi, rfl⟩ := List.getElem_of_mem hx
      exact mayCs_at h2.2.2.2 hi
    · have h3 := h2.1
      simp only [nameOk, Bool.and_eq_true, decide_eq_true_eq] at h3
      omega)
  generalize mayV s l = r at *
  clear hs hm hmc
  cases r
  · go_enter Tryd.func24, Tryd.ntmps24
    go_wp2_with (first
      | ((with_reducible refine HMY.out.mono ?_); rintro e w1 ⟨rfl, hb1⟩; have HB1 := Lib.hid (below_new hb1); clear hb1)
      | fail)
    go_ret
    exact ⟨by rw [HTV.out]; rfl, HB1.out⟩
  have HOK := Lib.hid (HMV.out rfl)
  have hl64 : l.length ≤ 64 := HOK.out.2.1
  go_enter Tryd.func24, Tryd.ntmps24
  go_wp2_with (first
    | ((with_reducible refine HMY.out.mono ?_); rintro e w1 ⟨rfl, hb1⟩
       have HB1 := Lib.hid (below_new hb1); have HX1 := Lib.hid (blk hb1 (lt_blk HX0.out) HX0.out); have y0 := cell_blk HX1.out 0; have y1 := cell_blk HX1.out 1; have l1 := lt_blk HX1.out
       clear hb1)
    | fail)
  clear z0 z1 y0 l1
  go_loopw [3, 4, 5] (fun x i _ wr => ∃ (k : Nat) (t : List UInt8), k ≤ l.length ∧ x = .string (txt t) ∧ i = .int .i64 k ∧ t = s.data.toList ++ (l.take k).flatMap clT ∧ Below w1.heap.size w1 wr) (fun _ i _ _ => l.length - (intOf i).toNat)
  case atStart => exact ⟨0, s.data.toList, Nat.zero_le _, by rw [txt_data], rfl, by simp, Below.refl _ _⟩
  case round =>
    obtain ⟨k, t, hk, rfl, rfl, ht, hbel⟩ := hrel
    have HBW1 := Lib.hid (HB1.out.trans (hbel.mono HB1.out.size))
    have HXR := Lib.hid (blk hbel (lt_blk HX1.out) HX1.out)
    have HBL := Lib.hid hbel
    have HTT := Lib.hid ht
    clear hbel ht y1
    by_cases hlt : k < l.length
    · obtain ⟨b, off, rfl, hb, hp⟩ := cl_at HS.out hlt
      obtain ⟨d0, d1, d2, d3⟩ := hp.below hb HBW1.out
      have hki : ((k : Nat) : Int) < (l.length : Int) := by omega
      have HKL := Lib.hid hlt
      have hok := okC_range (HOK.out.1 _ (List.getElem_mem hlt))
      have HNX0 : Hid (t ++ clT l[k] = s.data.toList ++ (l.take (k + 1)).flatMap clT) := Lib.hid (by
        rw [HTT.out, List.take_succ_eq_append_getElem hlt, List.flatMap_append, List.append_assoc]
        congr 2
        exact (List.append_nil _).symm)
      have HLN : Hid ((txt t).size ≤ 16 + k * 100) := Lib.hid (by
        have h1 := flat_clT_len (l.take k) (fun x hx => HOK.out.1 x (List.mem_of_mem_take hx))
        have h2 := HOK.out.2.2
        have h3 : s.data.toList.length = s.size := by rw [Array.length_toList]; rfl
        have e2 : (txt t).size = t.length := by simp [txt, ByteArray.size]
        rw [List.length_take] at h1
        rw [e2, HTT.out, List.length_append, h3]
        omega)
      generalize l[k] = x at *
      obtain ⟨cp, cu, ca, cd⟩ := x
      simp only at d0 d1 d2 d3 hok
      have HNT := Lib.hid (congrArg Value.string (clT_txt t cp cu ca cd))
      have HNX := Lib.hid HNX0.out
      obtain ⟨W5, hW5⟩ : ∃ W5, W5 = wr.alloc (.cells #[.string cp, .int .i64 cu, .int .i64 ca, .int .i64 cd] 39) := ⟨_, rfl⟩
      have HW5 := Lib.hid hW5
      obtain ⟨bc, hbc⟩ : ∃ bc, bc = wr.heap.size := ⟨_, rfl⟩
      have HXC : Hid (W5.heap[bc]? = some (.cells #[.string cp, .int .i64 cu, .int .i64 ca, .int .i64 cd] 39 (0, 0))) := Lib.hid (by rw [hW5, hbc]; exact heap_alloc_new _ _)
      have HX : Hid (∀ W, Below W5.heap.size W5 W → W.cell? ⟨bc, 0, none⟩ = some (.string cp) ∧ W.cell? ⟨bc, 1, none⟩ = some (.int .i64 cu) ∧ W.cell? ⟨bc, 2, none⟩ = some (.int .i64 ca) ∧ W.cell? ⟨bc, 3, none⟩ = some (.int .i64 cd)) := Lib.hid (fun W hW => by
        have h1 := blk hW (lt_blk HXC.out) HXC.out
        exact ⟨cell_blk h1 0, cell_blk h1 1, cell_blk h1 2, cell_blk h1 3⟩)
      have HIA := Lib.hid (fun W (_ : Below W5.heap.size W5 W) => digitsI_any ca (by omega) (by omega) W)
      have HID := Lib.hid (fun W (_ : Below W5.heap.size W5 W) => digitsI_any cd (by omega) (by omega) W)
      have HIU := Lib.hid (fun W (_ : Below W5.heap.size W5 W) => digitsI_any cu (by omega) (by omega) W)
      have HBW5 : Hid (Below w1.heap.size w1 W5) := Lib.hid (by rw [hW5]; exact HBL.out.alloc HBL.out.size _)
      have HZA : Hid ((txt t).size ≤ 7000 ∧ cp.size ≤ 16 ∧ (txt (Lib.itoa ca)).size ≤ 7 ∧ (txt (Lib.itoa cd)).size ≤ 7 ∧ (txt (Lib.itoa cu)).size ≤ 7) := Lib.hid (by
        have h5 := hok.2.2.2.2.2
        have h6 := HLN.out
        simp only [nameOk, Bool.and_eq_true, decide_eq_true_eq] at h5
        exact ⟨by omega, h5.2.1, itoa_len hok.2.1.1 hok.2.1.2, itoa_len hok.2.2.1.1 hok.2.2.1.2, itoa_len hok.1.1 hok.1.2⟩)
      have y1 := cell_blk HXR.out 1
      clear hW5 hp hb hok HNX0
      go_wp2_with fail
      rw [← hbc, ← HW5.out]
      clear hbc
      refine Any.region_lit (fun
        | 0 => Any.val (.string (txt t))
        | 1 => Any.val (.string (txt t ++ ⟨#[32]⟩))
        | 2 => Any.val (.pointer (some ⟨bc, 0, none⟩))
        | 3 => Any.val (.string (cp))
        | 4 => Any.val (.string (txt t ++ ⟨#[32]⟩ ++ cp))
        | 5 => Any.val (.string (txt t ++ ⟨#[32]⟩ ++ cp ++ ⟨#[64]⟩))
        | 6 => Any.val (.pointer (some ⟨bc, 2, none⟩))
        | 7 => Any.val (.int .i64 ca)
        | 8 => Any.val (.string (txt (Lib.itoa ca)))
        | 9 => Any.val (.string (txt t ++ ⟨#[32]⟩ ++ cp ++ ⟨#[64]⟩ ++ txt (Lib.itoa ca)))
        | 10 => Any.val (.string (txt t ++ ⟨#[32]⟩ ++ cp ++ ⟨#[64]⟩ ++ txt (Lib.itoa ca) ++ ⟨#[45]⟩))
        | 11 => Any.val (.pointer (some ⟨bc, 3, none⟩))
        | 12 => Any.val (.int .i64 cd)
        | 13 => Any.val (.string (txt (Lib.itoa cd)))
        | 14 => Any.val (.string (txt t ++ ⟨#[32]⟩ ++ cp ++ ⟨#[64]⟩ ++ txt (Lib.itoa ca) ++ ⟨#[45]⟩ ++ txt (Lib.itoa cd)))
        | 15 => Any.val (.string (txt t ++ ⟨#[32]⟩ ++ cp ++ ⟨#[64]⟩ ++ txt (Lib.itoa ca) ++ ⟨#[45]⟩ ++ txt (Lib.itoa cd) ++ ⟨#[47]⟩))
        | 16 => Any.val (.pointer (some ⟨bc, 1, none⟩))
        | 17 => Any.val (.int .i64 cu)
        | 18 => Any.val (.string (txt (Lib.itoa cu)))
        | 19 => Any.val (.string (txt t ++ ⟨#[32]⟩ ++ cp ++ ⟨#[64]⟩ ++ txt (Lib.itoa ca) ++ ⟨#[45]⟩ ++ txt (Lib.itoa cd) ++ ⟨#[47]⟩ ++ txt (Lib.itoa cu)))
        | 20 => Any.val (.string (txt t ++ ⟨#[32]⟩ ++ cp ++ ⟨#[64]⟩ ++ txt (Lib.itoa ca) ++ ⟨#[45]⟩ ++ txt (Lib.itoa cd) ++ ⟨#[47]⟩ ++ txt (Lib.itoa cu)))
        | _ => Any.idle) (by kernel_rfl) (by kernel_rfl) (by kernel_rfl) ?_ ?_ ?_
      · intro i _
        match i with
        | 0 => exact Any.lasts_val _
        | 1 => exact Any.lasts_val _
        | 2 => exact Any.lasts_val _
        | 3 => exact Any.lasts_val _
        | 4 => exact Any.lasts_val _
        | 5 => exact Any.lasts_val _
        | 6 => exact Any.lasts_val _
        | 7 => exact Any.lasts_val _
        | 8 => exact Any.lasts_val _
        | 9 => exact Any.lasts_val _
        | 10 => exact Any.lasts_val _
        | 11 => exact Any.lasts_val _
        | 12 => exact Any.lasts_val _
        | 13 => exact Any.lasts_val _
        | 14 => exact Any.lasts_val _
        | 15 => exact Any.lasts_val _
        | 16 => exact Any.lasts_val _
        | 17 => exact Any.lasts_val _
        | 18 => exact Any.lasts_val _
        | 19 => exact Any.lasts_val _
        | 20 => exact Any.lasts_val _
        | n + 21 => exact Any.lasts_idle
      · refine ⟨?_, ?_, ?_, ?_, ?_, ?_, ?_, ?_, ?_, ?_, ?_, ?_, ?_, ?_, ?_, ?_, ?_, ?_, ?_, ?_, ?_, trivial⟩
        · refine Any.owes_plain rfl fun ρ wo hs' hb hc' => ?_
          have h3 : ρ (.tmp 3) = .string (txt t) := hs'.old' 3 (by kernel_rfl)
          exact Any.ok_move (Any.post_val hb rfl h3)
        · refine Any.owes_plain rfl fun ρ wo hs' hb hc' => ?_
          have h23 : ρ (.tmp 23) = .string (txt t) := hs'.new' 23 0 (by kernel_rfl)
          exact Any.ok_add_str (h23) (hc' _) (by have := HZA.out; have e1 : (⟨#[32]⟩ : ByteArray).size = 1 := rfl; have e2 : (⟨#[64]⟩ : ByteArray).size = 1 := rfl; have e3 : (⟨#[45]⟩ : ByteArray).size = 1 := rfl; have e4 : (⟨#[47]⟩ : ByteArray).size = 1 := rfl; (try simp only [ByteArray.size_append]); omega) (Any.post_val hb rfl rfl)
        · refine Any.owes_plain rfl fun ρ wo hs' hb hc' => ?_
          have h5 : ρ (.tmp 5) = .pointer (some ⟨bc, 0, none⟩) := hs'.old' 5 (by kernel_rfl)
          go_simp
          exact Any.post_val hb rfl rfl
        · refine Any.owes_plain rfl fun ρ wo hs' hb hc' => ?_
          have h25 : ρ (.tmp 25) = .pointer (some ⟨bc, 0, none⟩) := hs'.new' 25 2 (by kernel_rfl)
          obtain ⟨c0, c1, c2, c3⟩ := HX.out wo (below_undrew hb)
          go_simp
          exact Any.post_val hb rfl rfl
        · refine Any.owes_plain rfl fun ρ wo hs' hb hc' => ?_
          have h24 : ρ (.tmp 24) = .string (txt t ++ ⟨#[32]⟩) := hs'.new' 24 1 (by kernel_rfl)
          have h26 : ρ (.tmp 26) = .string (cp) := hs'.new' 26 3 (by kernel_rfl)
          exact Any.ok_add_str (h24) (h26) (by have := HZA.out; have e1 : (⟨#[32]⟩ : ByteArray).size = 1 := rfl; have e2 : (⟨#[64]⟩ : ByteArray).size = 1 := rfl; have e3 : (⟨#[45]⟩ : ByteArray).size = 1 := rfl; have e4 : (⟨#[47]⟩ : ByteArray).size = 1 := rfl; (try simp only [ByteArray.size_append]); omega) (Any.post_val hb rfl rfl)
        · refine Any.owes_plain rfl fun ρ wo hs' hb hc' => ?_
          have h27 : ρ (.tmp 27) = .string (txt t ++ ⟨#[32]⟩ ++ cp) := hs'.new' 27 4 (by kernel_rfl)
          exact Any.ok_add_str (h27) (hc' _) (by have := HZA.out; have e1 : (⟨#[32]⟩ : ByteArray).size = 1 := rfl; have e2 : (⟨#[64]⟩ : ByteArray).size = 1 := rfl; have e3 : (⟨#[45]⟩ : ByteArray).size = 1 := rfl; have e4 : (⟨#[47]⟩ : ByteArray).size = 1 := rfl; (try simp only [ByteArray.size_append]); omega) (Any.post_val hb rfl rfl)
        · refine Any.owes_plain rfl fun ρ wo hs' hb hc' => ?_
          have h5 : ρ (.tmp 5) = .pointer (some ⟨bc, 0, none⟩) := hs'.old' 5 (by kernel_rfl)
          go_simp
          exact Any.post_val hb rfl rfl
        · refine Any.owes_plain rfl fun ρ wo hs' hb hc' => ?_
          have h29 : ρ (.tmp 29) = .pointer (some ⟨bc, 2, none⟩) := hs'.new' 29 6 (by kernel_rfl)
          obtain ⟨c0, c1, c2, c3⟩ := HX.out wo (below_undrew hb)
          go_simp
          exact Any.post_val hb rfl rfl
        · refine Any.owes_plain rfl fun ρ wo hs' hb hc' => ?_
          have h30 : ρ (.tmp 30) = .int .i64 ca := hs'.new' 30 7 (by kernel_rfl)
          have hf := hs'.func 43
          go_simp
          exact (HIA.out wo (below_undrew hb)).mono fun e w' ⟨he, hb'⟩ => ⟨_, he, Any.post_vals hb rfl rfl hb'⟩
        · refine Any.owes_plain rfl fun ρ wo hs' hb hc' => ?_
          have h28 : ρ (.tmp 28) = .string (txt t ++ ⟨#[32]⟩ ++ cp ++ ⟨#[64]⟩) := hs'.new' 28 5 (by kernel_rfl)
          have h31 : ρ (.tmp 31) = .string (txt (Lib.itoa ca)) := hs'.new' 31 8 (by kernel_rfl)
          exact Any.ok_add_str (h28) (h31) (by have := HZA.out; have e1 : (⟨#[32]⟩ : ByteArray).size = 1 := rfl; have e2 : (⟨#[64]⟩ : ByteArray).size = 1 := rfl; have e3 : (⟨#[45]⟩ : ByteArray).size = 1 := rfl; have e4 : (⟨#[47]⟩ : ByteArray).size = 1 := rfl; (try simp only [ByteArray.size_append]); omega) (Any.post_val hb rfl rfl)
        · refine Any.owes_plain rfl fun ρ wo hs' hb hc' => ?_
          have h32 : ρ (.tmp 32) = .string (txt t ++ ⟨#[32]⟩ ++ cp ++ ⟨#[64]⟩ ++ txt (Lib.itoa ca)) := hs'.new' 32 9 (by kernel_rfl)
          exact Any.ok_add_str (h32) (hc' _) (by have := HZA.out; have e1 : (⟨#[32]⟩ : ByteArray).size = 1 := rfl; have e2 : (⟨#[64]⟩ : ByteArray).size = 1 := rfl; have e3 : (⟨#[45]⟩ : ByteArray).size = 1 := rfl; have e4 : (⟨#[47]⟩ : ByteArray).size = 1 := rfl; (try simp only [ByteArray.size_append]); omega) (Any.post_val hb rfl rfl)
        · refine Any.owes_plain rfl fun ρ wo hs' hb hc' => ?_
          have h5 : ρ (.tmp 5) = .pointer (some ⟨bc, 0, none⟩) := hs'.old' 5 (by kernel_rfl)
          go_simp
          exact Any.post_val hb rfl rfl
        · refine Any.owes_plain rfl fun ρ wo hs' hb hc' => ?_
          have h34 : ρ (.tmp 34) = .pointer (some ⟨bc, 3, none⟩) := hs'.new' 34 11 (by kernel_rfl)
          obtain ⟨c0, c1, c2, c3⟩ := HX.out wo (below_undrew hb)
          go_simp
          exact Any.post_val hb rfl rfl
        · refine Any.owes_plain rfl fun ρ wo hs' hb hc' => ?_
          have h35 : ρ (.tmp 35) = .int .i64 cd := hs'.new' 35 12 (by kernel_rfl)
          have hf := hs'.func 43
          go_simp
          exact (HID.out wo (below_undrew hb)).mono fun e w' ⟨he, hb'⟩ => ⟨_, he, Any.post_vals hb rfl rfl hb'⟩
        · refine Any.owes_plain rfl fun ρ wo hs' hb hc' => ?_
          have h33 : ρ (.tmp 33) = .string (txt t ++ ⟨#[32]⟩ ++ cp ++ ⟨#[64]⟩ ++ txt (Lib.itoa ca) ++ ⟨#[45]⟩) := hs'.new' 33 10 (by kernel_rfl)
          have h36 : ρ (.tmp 36) = .string (txt (Lib.itoa cd)) := hs'.new' 36 13 (by kernel_rfl)
          exact Any.ok_add_str (h33) (h36) (by have := HZA.out; have e1 : (⟨#[32]⟩ : ByteArray).size = 1 := rfl; have e2 : (⟨#[64]⟩ : ByteArray).size = 1 := rfl; have e3 : (⟨#[45]⟩ : ByteArray).size = 1 := rfl; have e4 : (⟨#[47]⟩ : ByteArray).size = 1 := rfl; (try simp only [ByteArray.size_append]); omega) (Any.post_val hb rfl rfl)
        · refine Any.owes_plain rfl fun ρ wo hs' hb hc' => ?_
          have h37 : ρ (.tmp 37) = .string (txt t ++ ⟨#[32]⟩ ++ cp ++ ⟨#[64]⟩ ++ txt (Lib.itoa ca) ++ ⟨#[45]⟩ ++ txt (Lib.itoa cd)) := hs'.new' 37 14 (by kernel_rfl)
          exact Any.ok_add_str (h37) (hc' _) (by have := HZA.out; have e1 : (⟨#[32]⟩ : ByteArray).size = 1 := rfl; have e2 : (⟨#[64]⟩ : ByteArray).size = 1 := rfl; have e3 : (⟨#[45]⟩ : ByteArray).size = 1 := rfl; have e4 : (⟨#[47]⟩ : ByteArray).size = 1 := rfl; (try simp only [ByteArray.size_append]); omega) (Any.post_val hb rfl rfl)
        · refine Any.owes_plain rfl fun ρ wo hs' hb hc' => ?_
          have h5 : ρ (.tmp 5) = .pointer (some ⟨bc, 0, none⟩) := hs'.old' 5 (by kernel_rfl)
          go_simp
          exact Any.post_val hb rfl rfl
        · refine Any.owes_plain rfl fun ρ wo hs' hb hc' => ?_
          have h39 : ρ (.tmp 39) = .pointer (some ⟨bc, 1, none⟩) := hs'.new' 39 16 (by kernel_rfl)
          obtain ⟨c0, c1, c2, c3⟩ := HX.out wo (below_undrew hb)
          go_simp
          exact Any.post_val hb rfl rfl
        · refine Any.owes_plain rfl fun ρ wo hs' hb hc' => ?_
          have h40 : ρ (.tmp 40) = .int .i64 cu := hs'.new' 40 17 (by kernel_rfl)
          have hf := hs'.func 43
          go_simp
          exact (HIU.out wo (below_undrew hb)).mono fun e w' ⟨he, hb'⟩ => ⟨_, he, Any.post_vals hb rfl rfl hb'⟩
        · refine Any.owes_plain rfl fun ρ wo hs' hb hc' => ?_
          have h38 : ρ (.tmp 38) = .string (txt t ++ ⟨#[32]⟩ ++ cp ++ ⟨#[64]⟩ ++ txt (Lib.itoa ca) ++ ⟨#[45]⟩ ++ txt (Lib.itoa cd) ++ ⟨#[47]⟩) := hs'.new' 38 15 (by kernel_rfl)
          have h41 : ρ (.tmp 41) = .string (txt (Lib.itoa cu)) := hs'.new' 41 18 (by kernel_rfl)
          exact Any.ok_add_str (h38) (h41) (by have := HZA.out; have e1 : (⟨#[32]⟩ : ByteArray).size = 1 := rfl; have e2 : (⟨#[64]⟩ : ByteArray).size = 1 := rfl; have e3 : (⟨#[45]⟩ : ByteArray).size = 1 := rfl; have e4 : (⟨#[47]⟩ : ByteArray).size = 1 := rfl; (try simp only [ByteArray.size_append]); omega) (Any.post_val hb rfl rfl)
        · refine Any.owes_plain rfl fun ρ wo hs' hb hc' => ?_
          have h42 : ρ (.tmp 42) = .string (txt t ++ ⟨#[32]⟩ ++ cp ++ ⟨#[64]⟩ ++ txt (Lib.itoa ca) ++ ⟨#[45]⟩ ++ txt (Lib.itoa cd) ++ ⟨#[47]⟩ ++ txt (Lib.itoa cu)) := hs'.new' 42 19 (by kernel_rfl)
          exact Any.ok_assign (Any.post_val hb rfl h42)
      · intro vals w6 hb hk ha
        have h20 : vals 20 = .string (txt t ++ ⟨#[32]⟩ ++ cp ++ ⟨#[64]⟩ ++ txt (Lib.itoa ca) ++ ⟨#[45]⟩ ++ txt (Lib.itoa cd) ++ ⟨#[47]⟩ ++ txt (Lib.itoa cu)) := hk 20 (by kernel_rfl)
        have HB6 := Lib.hid hb
        clear hk hb ha
        simp only [Any.putAll]
        go_frame
        simp only [Nat.zero_add, Nat.reduceAdd]
        rw [h20]
        clear h20
        go_wp2_with fail
        go_roundw
        case rel => exact ⟨k + 1, _, HKL.out, HNT.out, by go_num, HNX.out, HBW5.out.trans (HB6.out.mono HBW5.out.size)⟩
        case measure => (simp [intOf]) <;> omega
    · have HTK : Hid (t = textL s l) := Lib.hid (by rw [HTT.out, textL, List.take_of_length_le (by omega)])
      have y1 := cell_blk HXR.out 1
      clear hk
      go_wp2_with fail
      go_ret
      exact ⟨by rw [HTV.out, HTK.out]; rfl, HBW1.out⟩
end Go.Proofs.YtbmjficiceiekaaDoor.Sc
