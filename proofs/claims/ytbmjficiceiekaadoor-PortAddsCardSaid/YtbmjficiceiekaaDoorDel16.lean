/- port.Delay. -/
import Derived.Test.YtbmjficiceiekaaDoorDelPl16
import Derived.Test.YtbmjficiceiekaaDoorOwnC
namespace Go.Proofs.YtbmjficiceiekaaDoor.Sc
open Go Go.RowKit Go.ChangeShapes Go.WideShapes Go.ChangeAt
set_option maxRecDepth 100000

theorem delRes : Tryd.f25.results = #[.cell 6 32] := by kernel_rfl
set_option maxHeartbeats 4000000 in
theorem delay_any (s : ByteArray) (v : Value) (l : List Cl) (call days : Int) (w : World) (hs : Sl w 4 v (l.map Cl.row)) (hl : l.length ≤ 4000) : Calls Tryd.prog 25 #[.agg #[.string s, v], .int .i64 call, .int .i64 days] w (DelP w s (delayR s l call days)) := by
  obtain ⟨a, c, rfl⟩ : ∃ a c, v = .slice a l.length c := by simpa using hs.shape
  have HS := Lib.hid hs
  have HC1 := Lib.hid (fun W (hW : Below w.heap.size w W) => cloneCl_any l (.slice a l.length c) W (hs.below hW (Nat.le_refl _)) (by omega))
  have HMY := Lib.hid (fun W (hW : Below w.heap.size w W) => mayP_any s (.slice a l.length c) l W (hs.below hW (Nat.le_refl _)))
  have HHL := Lib.hid hl
  obtain ⟨w3, hw3⟩ : ∃ w3, w3 = ((w.alloc (.cells #[.string s, .slice a l.length c] 32)).alloc (.cells #[.string ⟨#[]⟩, .slice none 0 0] 32)).alloc (.cells #[.string s, .slice a l.length c] 32) := ⟨_, rfl⟩
  have HW3 : Hid (Below w.heap.size w w3 ∧ w3.heap.size = w.heap.size + 1 + 1 + 1) := Lib.hid (by rw [hw3]; exact ⟨((one_below w _).alloc (by simp) _).alloc (by simp; omega) _, by simp⟩)
  have H3 : Hid (w3.heap[w.heap.size]? = some (.cells #[.string s, .slice a l.length c] 32 (0, 0))) := Lib.hid (by
    rw [hw3]
    exact blk (one_below _ _) (by simp; omega) (blk (one_below _ _) (by simp) (heap_alloc_new w _)))
  have H6 : Hid (w3.heap[w.heap.size + 1]? = some (.cells #[.string ⟨#[]⟩, .slice none 0 0] 32 (0, 0))) := Lib.hid (by
    rw [hw3]
    refine blk (one_below _ _) (by simp) ?_
    have := heap_alloc_new (w.alloc (.cells #[.string s, .slice a l.length c] 32)) (.cells #[.string ⟨#[]⟩, .slice none 0 0] 32)
    simpa using this)
  have H7 : Hid (w3.heap[w.heap.size + 1 + 1]? = some (.cells #[.string s, .slice a l.length c] 32 (0, 0))) := Lib.hid (by
    rw [hw3]
    have := heap_alloc_new ((w.alloc (.cells #[.string s, .slice a l.length c] 32)).alloc (.cells #[.string ⟨#[]⟩, .slice none 0 0] 32)) (.cells #[.string s, .slice a l.length c] 32)
    simpa using this)
  have HOKB := Lib.hid (fun h => delOk_false (s := s) (l := l) (call := call) (days := days) h)
  clear hs hl
  go_enter Tryd.func25, Tryd.ntmps25
  go_wp2_with fail
  rw [← hw3]
  clear hw3
  obtain ⟨b6, hb6⟩ : ∃ b6, b6 = w.heap.size + 1 := ⟨_, rfl⟩
  rw [← hb6] at H6 H7 HW3 ⊢
  obtain ⟨b7, hb7⟩ : ∃ b7, b7 = b6 + 1 := ⟨_, rfl⟩
  rw [← hb7] at H7 HW3 ⊢
  have HNE : Hid (w.heap.size < b6 ∧ b6 < b7) := Lib.hid (by omega)
  clear hb6 hb7
  have n1 : ¬ b7 = w.heap.size := by have := HNE.out; omega
  have n2 : ¬ w.heap.size = b7 := by have := HNE.out; omega
  have n3 : ¬ b7 = b6 := by have := HNE.out; omega
  have n4 : ¬ b6 = b7 := by have := HNE.out; omega
  go_wp2_with (first
    | ((with_reducible refine (HC1.out w3 HW3.out.1).mono ?_); rintro e w4 ⟨v1, rfl, hown1, hb4⟩
       obtain ⟨a1, c1, rfl⟩ : ∃ a c, v1 = .slice a l.length c := by simpa using (own_cls hown1 rfl).shape
       have HO1 := Lib.hid hown1; have HB4 := Lib.hid hb4; have H34 := Lib.hid (blk hb4 (lt_blk H3.out) H3.out); have H64 := Lib.hid (blk hb4 (lt_blk H6.out) H6.out); have H74 := Lib.hid (blk hb4 (lt_blk H7.out) H7.out)
       have z71 := cell_blk H74.out 1; have f71 := free_blk H74.out 1; have z31 := cell_blk H34.out 1; have z30 := cell_blk H34.out 0; clear hown1 hb4)
    | fail)
  obtain ⟨w5, hw5⟩ : ∃ w5, w5 = w4.setCell ⟨b7, 1, none⟩ (.slice a1 l.length c1) := ⟨_, rfl⟩
  rw [← hw5]
  have HK5 : Hid (Keep (fun b => some b7 = some b) w4 w5) := Lib.hid (by rw [hw5]; exact Keep.of_grown (Ord.set_grown w4 b7 1 _))
  have H75 : Hid (w5.heap[b7]? = some (.cells #[.string s, .slice a1 l.length c1] 32 (0, 0))) := Lib.hid (by rw [hw5]; simp [World.setCell, Array.getElem?_modify, H74.out])
  have H35 := Lib.hid (HK5.out.blk H34.out (fun e => n1 (Option.some.inj e)))
  have H65 := Lib.hid (HK5.out.blk H64.out (fun e => n3 (Option.some.inj e)))
  have HB5 : Hid (Below w.heap.size w w5) := Lib.hid (HK5.out.behind (HW3.out.1.trans (HB4.out.mono HW3.out.1.size)) (Nat.le_trans HW3.out.1.size HB4.out.size) (fun q hq e => by have := Option.some.inj e; have := HNE.out; omega))
  have HO5 := Lib.hid (ownsRow_keep HO1.out HK5.out (fun b hb e => by have h1 := (HO1.out.lt b hb).1; have h2 := Option.some.inj e; have h3 := HW3.out.2; omega))
  clear hw5 z71 f71 z31 z30
  have HDR : Hid (delayR s l call days = if delOk s l call days = true then (if mayV s (shiftTo l days call.toNat l.length) = true then shiftTo l days call.toNat l.length else l) else l) := Lib.hid rfl
  have HMB := Lib.hid ((HMY.out w5 HB5.out))
  have HRG := Lib.hid (fun h => delOk_range (s := s) (l := l) (call := call) (days := days) h)
  clear HMY
  cases hok : delOk s l call days
  · rw [hok, if_neg (by decide)] at HDR
    have HLV := Lib.hid (HOKB.out hok)
    clear hok HOKB HRG
    generalize mayV s l = r at *
    rcases HLV.out with rfl | ⟨rfl, t1⟩ | ⟨rfl, t1, t2⟩ | ⟨rfl, t1, t2, t3⟩ | ⟨rfl, t1, t2, t3, t4⟩
    all_goals
      clear HLV
      go_wp2_with (first
        | ((with_reducible refine (HMB.out).mono ?_); rintro e w6 ⟨rfl, hb6⟩
           have H36 := Lib.hid (blk hb6 (lt_blk H35.out) H35.out); have H66 := Lib.hid (blk hb6 (lt_blk H65.out) H65.out); have H76 := Lib.hid (blk hb6 (lt_blk H75.out) H75.out); have HB6 := Lib.hid (below_then HB5.out hb6); have HO6 := Lib.hid (ownsRow_below HO5.out hb6)
           have z70 := cell_blk H76.out 0; have z71 := cell_blk H76.out 1; have z31 := cell_blk H36.out 1; clear hb6)
        | (refine wpList_store_row (P := Tryd.prog) rfl 32 (.tmp 6) (.tmp 38) rfl b6 #[.string s, .slice a1 l.length c1] rfl rfl _ _ H66.out (by kernel_rfl) rfl (by simp [Value.oneCell']) ?_)
        | fail)
      have HK7 : Hid (Keep (fun b => b = b6) w6 (w6.setRow b6 #[.string s, .slice a1 l.length c1])) := Lib.hid (keep_setRow _ _ _)
      have H67 : Hid ((w6.setRow b6 #[.string s, .slice a1 l.length c1]).heap[b6]? = some (.cells #[.string s, .slice a1 l.length c1] 32 (0, 0))) := Lib.hid (heap_setRow H66.out)
      ((try simp only [Exit.inBlock, Exit.then]); refine bodyPost_ret (results_cell_row delRes _ _ _ _ _ _ _ rfl H67.out Tryd.underlying32 rfl (by kernel_rfl)) rfl ?_)
      refine ⟨_, rfl, ?_, HK7.out.behind HB6.out HB6.out.size (fun q hq e => by have := HNE.out; omega)⟩
      rw [HDR.out]
      exact ownsRow_base (ownsRow_keep HO6.out HK7.out (fun b hb e => by have h1 := (HO6.out.lt b hb).1; have h3 := HW3.out.2; have h4 := HNE.out; omega)) (by have h3 := HNE.out; have h4 := HW3.out.2; have h5 := HB6.out.size; first | omega | (simp; omega))
  · rw [hok, if_pos rfl] at HDR
    obtain ⟨hm, hc0, hc1, hd0, hd1⟩ := HRG.out hok
    have HOC : Hid (∀ x ∈ l, okC x = true) := Lib.hid (fun x hx => by
      obtain ⟨i, hi, rfl⟩ := List.getElem_of_mem hx
      exact mayCs_at (mayV_cs hm).2.2.2 hi)
    obtain ⟨k0, rfl⟩ : ∃ n : Nat, call = (n : Int) := ⟨call.toNat, by omega⟩
    rw [Int.toNat_natCast] at HDR
    rw [hm] at HMB
    have t1 : decide ((k0 : Int) < 0) = false := decide_eq_false (by omega)
    have t2 : decide ((l.length : Int) ≤ (k0 : Int)) = false := decide_eq_false (by omega)
    have t2' : decide (l.length ≤ k0) = false := decide_eq_false (by omega)
    have t3 : decide (days < 0) = false := decide_eq_false (by omega)
    have t4 : decide (1048576 < days) = false := decide_eq_false (by omega)
    have HKK : Hid (k0 < l.length ∧ 0 ≤ days ∧ days ≤ 1048576) := Lib.hid (by omega)
    clear hok HOKB HRG hm hc0 hc1
    go_wp2_with (first
      | ((with_reducible refine (HMB.out).mono ?_); rintro e w6 ⟨rfl, hb6⟩
         have H36 := Lib.hid (blk hb6 (lt_blk H35.out) H35.out); have H66 := Lib.hid (blk hb6 (lt_blk H65.out) H65.out); have H76 := Lib.hid (blk hb6 (lt_blk H75.out) H75.out); have HB6 := Lib.hid (below_then HB5.out hb6); have HO6 := Lib.hid (ownsRow_below HO5.out hb6)
         have z30 := cell_blk H36.out 0; have z31 := cell_blk H36.out 1; have l3 := lt_blk H36.out; have l7 := lt_blk H76.out; have l6 := lt_blk H66.out; clear hb6)
      | ((with_reducible refine (HC1.out _ (HB6.out.alloc HB6.out.size _)).mono ?_); rintro e w8 ⟨v8, rfl, hown8, hb8⟩
         obtain ⟨g, c8, cur8, rfl, hh8, hg8⟩ := own_pos hown8 (by have := HKK.out; omega)
         have HO8 := Lib.hid hown8; have HG8 := Lib.hid (And.intro hh8 hg8); have HA6 := Lib.hid (one_below w6 (.cells #[.string s, .slice a l.length c] 32)); have HA8 := Lib.hid (HA6.out.trans (hb8.mono HA6.out.size))
         have H88 := Lib.hid (blk hb8 (by simp) (heap_alloc_new w6 (.cells #[.string s, .slice a l.length c] 32)))
         have z81 := cell_blk H88.out 1; have f81 := free_blk H88.out 1; clear hown8 hh8 hg8 hb8)
      | fail)
    obtain ⟨w9, hw9⟩ : ∃ w9, w9 = w8.setCell ⟨w6.heap.size, 1, none⟩ (.slice (some ⟨g, 0, none⟩) l.length c8) := ⟨_, rfl⟩
    rw [← hw9]
    have HK9 : Hid (Keep (fun b => some w6.heap.size = some b) w8 w9) := Lib.hid (by rw [hw9]; exact Keep.of_grown (Ord.set_grown w8 w6.heap.size 1 _))
    have H89 : Hid (w9.heap[w6.heap.size]? = some (.cells #[.string s, .slice (some ⟨g, 0, none⟩) l.length c8] 32 (0, 0))) := Lib.hid (by rw [hw9]; simp [World.setCell, Array.getElem?_modify, H88.out])
    obtain ⟨b8, hb8⟩ : ∃ b8, b8 = w6.heap.size := ⟨_, rfl⟩
    have HGN : Hid (b8 < g) := Lib.hid (by have := HG8.out.2; simp at this; omega)
    have HN8 : Hid (w.heap.size < b8 ∧ b6 < b8 ∧ b7 < b8 ∧ b8 = w6.heap.size) := Lib.hid (by omega)
    have H69 := Lib.hid (HK9.out.blk (blk HA8.out l6 H66.out) (fun e => by have := Option.some.inj e; omega))
    have H79 := Lib.hid (HK9.out.blk (blk HA8.out l7 H76.out) (fun e => by have := Option.some.inj e; omega))
    have HO9 := Lib.hid (ownsRow_keep (ownsRow_below HO6.out HA8.out) HK9.out (fun b hb e => by have h1 := (HO6.out.lt b hb).2; have h2 := Option.some.inj e; omega))
    have HR9 := Lib.hid (ownsRow_keep HO8.out HK9.out (fun b hb e => by have h1 := (HO8.out.lt b hb).1; have h2 := Option.some.inj e; simp at h1; omega))
    have HB9 := Lib.hid (HK9.out.behind (below_then HB6.out HA8.out) (Nat.le_trans HB6.out.size HA8.out.size) (fun q hq e => by have := Option.some.inj e; have := HB6.out.size; omega))
    rw [← hb8] at H89 ⊢
    clear hw9 z30 z31 l3 l6 l7 z81 f81 t1 t2 t2' t3 t4 hb8
    have HBS := Lib.hid (Nat.le_refl b8)
    go_loopw [9, 10] (fun i _ wr => ∃ k : Nat, k0 ≤ k ∧ k ≤ l.length ∧ i = .int .i64 k ∧ wr.ownsRow (w6.alloc (.cells #[.string s, .slice a l.length c] 32)).heap.size 39 4 (.slice (some ⟨g, 0, none⟩) l.length c8) l.length (clCells (shiftTo l days k0 k)) ∧ Keep (fun b => some g = some b) w9 wr) (fun i _ _ => l.length - (intOf i).toNat)
    case atStart => exact ⟨k0, Nat.le_refl _, Nat.le_of_lt HKK.out.1, rfl, by rw [shiftTo_start]; exact HR9.out, Keep.refl _ _⟩
    case round =>
      obtain ⟨k, hk0, hk, rfl, hown, hkeep⟩ := hrel
      have HOW := Lib.hid hown
      have HKP := Lib.hid hkeep
      have H8R := Lib.hid (hkeep.blk H89.out (fun e => by have := Option.some.inj e; have := HGN.out; omega))
      have z81 := cell_blk H8R.out 1
      have z80 := cell_blk H8R.out 0
      clear hown hkeep
      by_cases hlt : k < l.length
      · have hki : ((k : Nat) : Int) < (l.length : Int) := by omega
        obtain ⟨g', c', cur, hv, hh, hg⟩ := own_pos HOW.out (by omega)
        obtain ⟨rfl, rfl⟩ : g = g' ∧ c8 = c' := by simpa using hv
        have f1 := free_blk hh (k * 4 + 1)
        have f2 := free_blk hh (k * 4 + 2)
        have f3 := free_blk hh (k * 4 + 3)
        obtain ⟨b, off, he, hb, hp⟩ := cl_at (own_cls HOW.out (by rw [shiftTo_len])) (k := k) (by rw [shiftTo_len]; exact hlt)
        simp only [Option.some.injEq, Addr.mk.injEq, and_true] at he
        obtain ⟨rfl, rfl⟩ := he
        rw [shiftTo_at hlt] at hp
        obtain ⟨d0, d1, d2, d3⟩ := hp
        rw [Nat.zero_add] at d0 d1 d2 d3
        have HNX : Hid ((((clCells (shiftTo l days k0 k)).set (k * 4 + 1) (.int .i64 (l[k].cut + days))).set (k * 4 + 2) (.int .i64 (l[k].arr + days))).set (k * 4 + 3) (.int .i64 (l[k].dep + days)) = clCells (shiftTo l days k0 (k + 1))) := Lib.hid (by
          rw [← shiftTo_next hk0 hlt, clCells_set (by rw [shiftTo_len]; exact hlt), shiftTo_at hlt]; rfl)
        obtain ⟨⟨x1, x2⟩, ⟨x3, x4⟩, ⟨x5, x6⟩, -⟩ := okC_range (HOC.out _ (List.getElem_mem hlt))
        obtain ⟨-, y1, y2⟩ := HKK.out
        have HKL := Lib.hid (And.intro hk0 hlt)
        have hkb : (k : Int) ≤ 4000 := by have := HHL.out; omega
        generalize l[k].port = xp at *
        generalize l[k].cut = xu at *
        generalize l[k].arr = xa at *
        generalize l[k].dep = xd at *
        clear hv hg hb hk hk0
        go_wp2_with fail
        go_roundw
        case rel =>
          have h1 := own_cell HOW.out (k * 4 + 1) (.int .i64 (xu + days))
          have h2 := own_cell h1 (k * 4 + 2) (.int .i64 (xa + days))
          have h3 := own_cell h2 (k * 4 + 3) (.int .i64 (xd + days))
          rw [HNX.out] at h3
          refine ⟨k + 1, Nat.le_succ_of_le HKL.out.1, HKL.out.2, by go_num, h3, ?_⟩
          exact ((HKP.out.trans (Keep.of_grown (Ord.set_grown _ g _ _)) (fun _ _ h => h)).trans (Keep.of_grown (Ord.set_grown _ g _ _)) (fun _ _ h => h)).trans (Keep.of_grown (Ord.set_grown _ g _ _)) (fun _ _ h => h)
        case measure => have := HKL.out; (simp [intOf]) <;> omega
      · have hki : ¬ ((k : Nat) : Int) < (l.length : Int) := by omega
        obtain rfl : k = l.length := by omega
        clear hlt
        have H7R := Lib.hid (HKP.out.blk H79.out (fun e => by have := Option.some.inj e; have := HGN.out; have := HN8.out; omega))
        have H6R := Lib.hid (HKP.out.blk H69.out (fun e => by have := Option.some.inj e; have := HGN.out; have := HN8.out; omega))
        have HOR := Lib.hid (ownsRow_keep HO9.out HKP.out (fun b hb e => by have h1 := (HO6.out.lt b hb).2; have h2 := Option.some.inj e; have h3 := HG8.out.2; simp at h3; omega))
        have HBR := Lib.hid (HKP.out.behind HB9.out HB9.out.size (fun q hq e => by have := Option.some.inj e; have := HGN.out; have := HN8.out; omega))
        have HSR := Lib.hid (own_cls HOW.out (by rw [shiftTo_len]))
        have HLN := Lib.hid (shiftTo_len l days k0 l.length)
        have HM2 := Lib.hid (mayP_any s (.slice (some ⟨g, 0, none⟩) l.length c8) (shiftTo l days k0 l.length) wr HSR.out)
        generalize mayV s (shiftTo l days k0 l.length) = r2 at *
        cases r2
        · go_wp2_with (first
            | ((with_reducible refine (HM2.out).mono ?_); rintro e wa ⟨rfl, hba⟩
               have H6A := Lib.hid (blk hba (lt_blk H6R.out) H6R.out); have H7A := Lib.hid (blk hba (lt_blk H7R.out) H7R.out); have HBA := Lib.hid (below_then HBR.out hba); have HOA := Lib.hid (ownsRow_below HOR.out hba)
               have z70 := cell_blk H7A.out 0; have z71 := cell_blk H7A.out 1; clear hba)
            | (refine wpList_store_row (P := Tryd.prog) rfl 32 (.tmp 6) (.tmp 83) rfl b6 #[.string s, .slice a1 l.length c1] rfl rfl _ _ H6A.out (by kernel_rfl) rfl (by simp [Value.oneCell']) ?_)
            | fail)
          have HKZ : Hid (Keep (fun b => b = b6) wa (wa.setRow b6 #[.string s, .slice a1 l.length c1])) := Lib.hid (keep_setRow _ _ _)
          have H6Z : Hid ((wa.setRow b6 #[.string s, .slice a1 l.length c1]).heap[b6]? = some (.cells #[.string s, .slice a1 l.length c1] 32 (0, 0))) := Lib.hid (heap_setRow H6A.out)
          ((try simp only [Exit.inBlock, Exit.then]); refine bodyPost_ret (results_cell_row delRes _ _ _ _ _ _ _ rfl H6Z.out Tryd.underlying32 rfl (by kernel_rfl)) rfl ?_)
          refine ⟨_, rfl, ?_, HKZ.out.behind HBA.out HBA.out.size (fun q hq e => by have := HNE.out; omega)⟩
          rw [HDR.out]
          exact ownsRow_base (ownsRow_keep HOA.out HKZ.out (fun b hb e => by have h1 := (HOA.out.lt b hb).1; have h3 := HW3.out.2; have h4 := HNE.out; omega)) (by have h3 := HNE.out; have h4 := HW3.out.2; have h5 := HB6.out.size; first | omega | (simp; omega))
        · go_wp2_with (first
            | ((with_reducible refine (HM2.out).mono ?_); rintro e wa ⟨rfl, hba⟩
               have H6A := Lib.hid (blk hba (lt_blk H6R.out) H6R.out); have H8A := Lib.hid (blk hba (lt_blk H8R.out) H8R.out); have HBA := Lib.hid (below_then HBR.out hba); have HOA := Lib.hid (ownsRow_below HOW.out hba)
               have y80 := cell_blk H8A.out 0; have y81 := cell_blk H8A.out 1; clear hba)
            | (refine wpList_store_row (P := Tryd.prog) rfl 32 (.tmp 6) (.tmp 84) rfl b6 #[.string s, .slice (some ⟨g, 0, none⟩) l.length c8] rfl rfl _ _ H6A.out (by kernel_rfl) rfl (by simp [Value.oneCell']) ?_)
            | fail)
          have HKZ : Hid (Keep (fun b => b = b6) wa (wa.setRow b6 #[.string s, .slice (some ⟨g, 0, none⟩) l.length c8])) := Lib.hid (keep_setRow _ _ _)
          have H6Z : Hid ((wa.setRow b6 #[.string s, .slice (some ⟨g, 0, none⟩) l.length c8]).heap[b6]? = some (.cells #[.string s, .slice (some ⟨g, 0, none⟩) l.length c8] 32 (0, 0))) := Lib.hid (heap_setRow H6A.out)
          ((try simp only [Exit.inBlock, Exit.then]); refine bodyPost_ret (results_cell_row delRes _ _ _ _ _ _ _ rfl H6Z.out Tryd.underlying32 rfl (by kernel_rfl)) rfl ?_)
          refine ⟨_, rfl, ?_, HKZ.out.behind HBA.out HBA.out.size (fun q hq e => by have := HNE.out; omega)⟩
          rw [HDR.out]
          simp only [if_true]
          rw [HLN.out]
          exact ownsRow_base (ownsRow_keep HOA.out HKZ.out (fun b hb e => by have h1 := (HOA.out.lt b hb).1; have h3 := HW3.out.2; have h4 := HNE.out; have h5 := HN8.out; simp at h1; omega)) (by have h3 := HNE.out; have h4 := HW3.out.2; have h5 := HB6.out.size; first | omega | (simp; omega))
end Go.Proofs.YtbmjficiceiekaaDoor.Sc
