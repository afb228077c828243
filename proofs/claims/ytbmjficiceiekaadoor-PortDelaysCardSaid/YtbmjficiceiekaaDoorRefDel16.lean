/- The reference's Delay. -/
import Derived.Test.YtbmjficiceiekaaDoorDelPl16
import Derived.Test.YtbmjficiceiekaaDoorOwnC
import Derived.Test.YtbmjficiceiekaaDoorFillR
import Derived.Test.YtbmjficiceiekaaDoorRefMay16
import Derived.StillTailTactics
namespace Go.Proofs.YtbmjficiceiekaaDoor.Sc
open Go Go.RowKit Go.ChangeShapes Go.WideShapes Go.ChangeAt
set_option maxRecDepth 100000

theorem clCells_cut : ∀ {l : List Cl} {k : Nat} {x : Cl} (_ : l[k]? = some x) (u : Int), (clCells l).set (k * 4 + 1) (.int .i64 u) = clCells (l.set k ⟨x.port, u, x.arr, x.dep⟩)
  | x :: r, 0, _, h, _ => by cases h; rfl
  | x :: r, k + 1, y, h, u => by
    have ih := clCells_cut (l := r) (k := k) (x := y) (by simpa using h) u
    rw [show (k + 1) * 4 + 1 = (k * 4 + 1) + 1 + 1 + 1 + 1 by omega]
    show (Value.string x.port :: Value.int .i64 x.cut :: Value.int .i64 x.arr :: Value.int .i64 x.dep :: clCells r).set _ _ = _
    simp only [List.set_cons_succ]
    rw [ih]
    rfl
theorem own_cut {w : World} {B g n c k : Nat} {M : List Cl} {x : Cl} (h : w.ownsRow B 39 4 (.slice (some ⟨g, 0, none⟩) n c) n (clCells M)) (hx : M[k]? = some x) (u : Int) :
    (w.setCell ⟨g, k * 4 + 1, none⟩ (.int .i64 u)).ownsRow B 39 4 (.slice (some ⟨g, 0, none⟩) n c) n (clCells (M.set k ⟨x.port, u, x.arr, x.dep⟩)) := by
  rw [← clCells_cut hx u]
  exact own_cell h _ _
theorem clCells_arr : ∀ {l : List Cl} {k : Nat} {x : Cl} (_ : l[k]? = some x) (u : Int), (clCells l).set (k * 4 + 2) (.int .i64 u) = clCells (l.set k ⟨x.port, x.cut, u, x.dep⟩)
  | x :: r, 0, _, h, _ => by cases h; rfl
  | x :: r, k + 1, y, h, u => by
    have ih := clCells_arr (l := r) (k := k) (x := y) (by simpa using h) u
    rw [show (k + 1) * 4 + 2 = (k * 4 + 2) + 1 + 1 + 1 + 1 by omega]
    show (Value.string x.port :: Value.int .i64 x.cut :: Value.int .i64 x.arr :: Value.int .i64 x.dep :: clCells r).set _ _ = _
    simp only [List.set_cons_succ]
    rw [ih]
    rfl
theorem own_arr {w : World} {B g n c k : Nat} {M : List Cl} {x : Cl} (h : w.ownsRow B 39 4 (.slice (some ⟨g, 0, none⟩) n c) n (clCells M)) (hx : M[k]? = some x) (u : Int) :
    (w.setCell ⟨g, k * 4 + 2, none⟩ (.int .i64 u)).ownsRow B 39 4 (.slice (some ⟨g, 0, none⟩) n c) n (clCells (M.set k ⟨x.port, x.cut, u, x.dep⟩)) := by
  rw [← clCells_arr hx u]
  exact own_cell h _ _
theorem clCells_dep : ∀ {l : List Cl} {k : Nat} {x : Cl} (_ : l[k]? = some x) (u : Int), (clCells l).set (k * 4 + 3) (.int .i64 u) = clCells (l.set k ⟨x.port, x.cut, x.arr, u⟩)
  | x :: r, 0, _, h, _ => by cases h; rfl
  | x :: r, k + 1, y, h, u => by
    have ih := clCells_dep (l := r) (k := k) (x := y) (by simpa using h) u
    rw [show (k + 1) * 4 + 3 = (k * 4 + 3) + 1 + 1 + 1 + 1 by omega]
    show (Value.string x.port :: Value.int .i64 x.cut :: Value.int .i64 x.arr :: Value.int .i64 x.dep :: clCells r).set _ _ = _
    simp only [List.set_cons_succ]
    rw [ih]
    rfl
theorem own_dep {w : World} {B g n c k : Nat} {M : List Cl} {x : Cl} (h : w.ownsRow B 39 4 (.slice (some ⟨g, 0, none⟩) n c) n (clCells M)) (hx : M[k]? = some x) (u : Int) :
    (w.setCell ⟨g, k * 4 + 3, none⟩ (.int .i64 u)).ownsRow B 39 4 (.slice (some ⟨g, 0, none⟩) n c) n (clCells (M.set k ⟨x.port, x.cut, x.arr, u⟩)) := by
  rw [← clCells_dep hx u]
  exact own_cell h _ _
theorem cls_at {w : World} {B g n c k : Nat} {M : List Cl} {x : Cl} (h : w.ownsRow B 39 4 (.slice (some ⟨g, 0, none⟩) n c) n (clCells M)) (hx : M[k]? = some x) (hn : M.length = n) : ClAt w g (k * 4) x := by
  obtain ⟨hk, rfl⟩ := List.getElem?_eq_some_iff.1 hx
  obtain ⟨b, off, he, hb, hp⟩ := cl_at (by subst hn; exact own_cls h rfl) (k := k) hk
  simp only [Option.some.injEq, Addr.mk.injEq, and_true] at he
  obtain ⟨rfl, rfl⟩ := he
  rwa [Nat.zero_add] at hp
theorem refDelRes : Tryd.f26.results = #[.cell 6 32] := by kernel_rfl
set_option maxHeartbeats 4000000 in
theorem refDelay_any (s : ByteArray) (v : Value) (l : List Cl) (call days : Int) (w : World) (hs : Sl w 4 v (l.map Cl.row)) (hl : l.length ≤ 4000) (hm : s.size ≤ 9223372036854775807) (hmc : ∀ x ∈ l, x.port.size ≤ 9223372036854775807) :
    Calls Tryd.prog 26 #[.agg #[.string s, v], .int .i64 call, .int .i64 days] w (DelP w s (delayR s l call days)) := by
  obtain ⟨i1, hi, hz, hsz, hby⟩ := info_parts infoCl
  have HIC := Lib.hid (And.intro hi (And.intro hz (And.intro hsz hby)))
  clear hi hz hsz hby
  obtain ⟨a, c, rfl⟩ : ∃ a c, v = .slice a l.length c := by simpa using hs.shape
  have HS := Lib.hid hs
  have HSR0 : Hid (∀ W, Below w.heap.size w W → Src W 4 (.slice a l.length c) l.length (clCells l)) := Lib.hid (fun W hW => by
    have h2 := (hs.below hW (Nat.le_refl _)).src (cl_rows l) (by decide)
    rw [List.length_map, ← clCells_flat] at h2
    exact h2)
  have HMY := Lib.hid (fun W (hW : Below w.heap.size w W) => refMayP_any s (.slice a l.length c) l W (hs.below hW (Nat.le_refl _)) hm hmc)
  have HMZ := Lib.hid (And.intro hm hmc)
  have HHL := Lib.hid hl
  have HLC : Hid (0 + l.length ≤ maxLen ∧ (0 + l.length) * 40 ≤ 140737488355328) := Lib.hid (by simp only [maxLen]; omega)
  obtain ⟨w2, hw2⟩ : ∃ w2, w2 = (w.alloc (.cells #[.string s, .slice a l.length c] 32)).alloc (.cells #[.string ⟨#[]⟩, .slice none 0 0] 32) := ⟨_, rfl⟩
  have HW2 : Hid (Below w.heap.size w w2 ∧ w2.heap.size = w.heap.size + 1 + 1) := Lib.hid (by rw [hw2]; exact ⟨(one_below w _).alloc (by simp) _, by simp⟩)
  have H3 : Hid (w2.heap[w.heap.size]? = some (.cells #[.string s, .slice a l.length c] 32 (0, 0))) := Lib.hid (by
    rw [hw2]
    exact blk (one_below _ _) (by simp) (heap_alloc_new w _))
  have H6 : Hid (w2.heap[w.heap.size + 1]? = some (.cells #[.string ⟨#[]⟩, .slice none 0 0] 32 (0, 0))) := Lib.hid (by
    rw [hw2]
    have := heap_alloc_new (w.alloc (.cells #[.string s, .slice a l.length c] 32)) (.cells #[.string ⟨#[]⟩, .slice none 0 0] 32)
    simpa using this)
  have HOKB := Lib.hid (fun h => delOk_false (s := s) (l := l) (call := call) (days := days) h)
  have HRG := Lib.hid (fun h => delOk_range (s := s) (l := l) (call := call) (days := days) h)
  have HDR : Hid (delayR s l call days = if delOk s l call days = true then (if mayV s (shiftTo l days call.toNat l.length) = true then shiftTo l days call.toNat l.length else l) else l) := Lib.hid rfl
  have H3W : Hid (∀ W, Keep (fun _ => False) w2 W → W.cell? ⟨w.heap.size, 0, none⟩ = some (.string s) ∧ W.cell? ⟨w.heap.size, 1, none⟩ = some (.slice a l.length c)) := Lib.hid (fun W hW => ⟨cell_blk (hW.blk H3.out (fun h => h)) 0, cell_blk (hW.blk H3.out (fun h => h)) 1⟩)
  have HSRC : Hid (∀ W, Keep (fun _ => False) w2 W → Src W 4 (.slice a l.length c) l.length (clCells l)) := Lib.hid (fun W hW => HSR0.out W (hW.behind HW2.out.1 HW2.out.1.size (fun _ _ h => h)))
  clear hs hl hm hmc
  go_enter Tryd.func26, Tryd.ntmps26
  go_wp2_with fail
  rw [← hw2]
  clear hw2
  obtain ⟨b6, hb6⟩ : ∃ b6, b6 = w.heap.size + 1 := ⟨_, rfl⟩
  rw [← hb6] at H6 HW2 ⊢
  have HNE : Hid (w.heap.size < b6 ∧ w2.heap.size = b6 + 1) := Lib.hid (by have := HW2.out.2; omega)
  clear hb6
  refine Ord.region_lit (fun
    | 0 => Ord.val (.pointer (some ⟨w.heap.size, 0, none⟩))
    | 1 => Ord.val (.string s)
    | 2 => Ord.own w2.heap.size 39 4 (0) ([]) []
    | 3 => Ord.val (.pointer (some ⟨w.heap.size, 1, none⟩))
    | 4 => Ord.val (.slice a l.length c)
    | 5 => Ord.own w2.heap.size 39 4 (0 + l.length) ([] ++ clCells l) [2]
    | 6 => Ord.built (fun s' => #[.string s, s']) w2.heap.size 39 4 (l.length) (clCells l) [5]
    | 7 => Ord.box 32 #[.string ⟨#[]⟩, .slice none 0 0]
    | 8 => Ord.fillrow 32 (fun s' => #[.string s, s']) w2.heap.size 39 4 (l.length) (clCells l) (.tmp 7) [7, 6]
    | _ => Ord.idle) (fun _ => False) (by kernel_rfl) (by kernel_rfl) (by kernel_rfl) ?_ ?_ ?_ ?_
  · intro i _
    match i with
    | 0 => exact Ord.lasts_val _
    | 1 => exact Ord.lasts_val _
    | 2 => exact Ord.lasts_own _ _ _ _ _ _
    | 3 => exact Ord.lasts_val _
    | 4 => exact Ord.lasts_val _
    | 5 => exact Ord.lasts_own _ _ _ _ _ _
    | 6 => exact Ord.lasts_built _ _ _ _ _ _ _
    | 7 => exact Ord.lasts_box _ _
    | 8 => exact Ord.lasts_fillrow _ _ _ _ _ _ _ _ _
    | n + 9 => exact Ord.lasts_idle
  · refine ⟨fun k b _ hh => ?_, fun k b _ hh => ?_, fun k k' b _ _ hne h1 h2 => ?_⟩
    · match k, hh with
      | 0, hh => exact hh.elim
      | 1, hh => exact hh.elim
      | 2, hh => exact hh.elim
      | 3, hh => exact hh.elim
      | 4, hh => exact hh.elim
      | 5, hh => exact hh.elim
      | 6, hh => exact hh.elim
      | 7, hh => exact hh.elim
      | 8, hh => exact hh.elim
      | m + 9, hh => exact hh.elim
    · match k, hh with
      | 0, hh => exact hh.elim
      | 1, hh => exact hh.elim
      | 2, hh => exact hh.elim
      | 3, hh => exact hh.elim
      | 4, hh => exact hh.elim
      | 5, hh => exact hh.elim
      | 6, hh => exact hh.elim
      | 7, hh => exact hh.elim
      | 8, hh => exact hh.elim
      | m + 9, hh => exact hh.elim
    · match k, h1 with
      | 0, hh => exact hh.elim
      | 1, hh => exact hh.elim
      | 2, hh => exact hh.elim
      | 3, hh => exact hh.elim
      | 4, hh => exact hh.elim
      | 5, hh => exact hh.elim
      | 6, hh => exact hh.elim
      | 7, hh => exact hh.elim
      | 8, hh => exact hh.elim
      | m + 9, hh => exact hh.elim
  · refine ⟨?_, ?_, ?_, ?_, ?_, ?_, ?_, ?_, ?_, trivial⟩
    · refine Ord.owes_plain rfl fun ρ Os wo hs' hb hc' => ?_
      have h3 : ρ (.tmp 3) = .pointer (some ⟨w.heap.size, 0, none⟩) := hs'.old' 3 (by kernel_rfl)
      go_simp
      exact Ord.post_val rfl rfl
    · refine Ord.owes_plain rfl fun ρ Os wo hs' hb hc' => ?_
      have h9 : ρ (.tmp 9) = .pointer (some ⟨w.heap.size, 0, none⟩) := hs'.val' 9 0 (by kernel_rfl) rfl
      have c0 := (H3W.out wo hb.undrew).1
      go_simp
      exact Ord.post_val rfl rfl
    · refine Ord.owes_plain rfl fun ρ Os wo hs' hb hc' => ?_
      go_simp
      exact Ord.post_own0 (show w2.heap.size ≤ wo.heap.size from hb.size) rfl
    · refine Ord.owes_plain rfl fun ρ Os wo hs' hb hc' => ?_
      have h3 : ρ (.tmp 3) = .pointer (some ⟨w.heap.size, 0, none⟩) := hs'.old' 3 (by kernel_rfl)
      go_simp
      exact Ord.post_val rfl rfl
    · refine Ord.owes_plain rfl fun ρ Os wo hs' hb hc' => ?_
      have h12 : ρ (.tmp 12) = .pointer (some ⟨w.heap.size, 1, none⟩) := hs'.val' 12 3 (by kernel_rfl) rfl
      have c0 := (H3W.out wo hb.undrew).2
      go_simp
      exact Ord.post_val rfl rfl
    · refine Ord.owes_plain rfl fun ρ Os wo hs' hb hc' => ?_
      have h13 : ρ (.tmp 13) = .slice a l.length c := hs'.val' 13 4 (by kernel_rfl) rfl
      exact Ord.ok_own_append Tryd.underlying30 HIC.out.1 HIC.out.2.1 HIC.out.2.2.1 HIC.out.2.2.2 rfl (by decide) (hs'.new' 11 2 (by kernel_rfl)) (by rw [h13]; exact HSRC.out wo hb.undrew) (clCells_one l) HLC.out.1 HLC.out.2 (show w2.heap.size ≤ wo.heap.size from hb.size) List.mem_cons_self rfl
    · refine Ord.owes_plain rfl fun ρ Os wo hs' hb hc' => ?_
      have h10 : ρ (.tmp 10) = .string s := hs'.val' 10 1 (by kernel_rfl) rfl
      obtain ⟨ρ', hr1, hr2⟩ := hs'.new' 14 5 (by kernel_rfl)
      rw [Nat.zero_add, List.nil_append] at hr1
      obtain ⟨a7, c7, hv⟩ := Ord.row_slice hr1
      rw [hv] at hr1 hr2
      go_simp
      exact Ord.post_built (cells := (fun s' => #[.string s, s'])) hr1 hr2 List.mem_cons_self rfl
    · refine Ord.owes_plain rfl fun ρ Os wo hs' hb hc' => ?_
      go_simp
      exact Ord.post_box rfl
    · refine Ord.owes_plain rfl fun ρ Os wo hs' hb hc' => ?_
      exact Ord.ok_fillrow (hs'.new' 7 7 (by kernel_rfl)) (hs'.new' 15 6 (by kernel_rfl)) (hs'.tookApart 7 6 (List.mem_cons_self) (List.mem_cons_of_mem _ List.mem_cons_self) (by decide)) (fun _ => by kernel_rfl) (fun _ => rfl) (fun _ _ => by simp [Value.oneCell']) List.mem_cons_self (List.mem_cons_of_mem _ List.mem_cons_self) rfl
  intro vals Os ρs w3 hk hkn hln hap hbd
  obtain ⟨b7, v7, k0, k1, k2, k3⟩ := hkn 8 (by kernel_rfl)
  have h7 : vals 7 = .pointer (some ⟨b7, 0, none⟩) := (hln 8 7 7 (by kernel_rfl)).symm.trans k0
  have HB3 : Hid (Below w2.heap.size w2 w3) := Lib.hid (hk.below (Nat.le_refl _) (fun _ _ h => h))
  have HG7 : Hid (w2.heap.size ≤ b7) := Lib.hid ((hbd 8 (by kernel_rfl) b7 ((k3 b7).2 (.inl rfl))).resolve_right (fun h => h))
  have H7 := Lib.hid k1
  obtain ⟨a7, c7, rfl⟩ := Ord.row_slice k2
  have HO7 := Lib.hid k2
  clear hkn hln hap hbd hk k0 k1 k2 k3
  simp only [Any.putAll]
  go_frame
  rw [h7]
  clear h7
  have HB5 := Lib.hid (below_then HW2.out.1 HB3.out)
  have H35 := Lib.hid (blk HB3.out (lt_blk H3.out) H3.out)
  have H65 := Lib.hid (blk HB3.out (lt_blk H6.out) H6.out)
  have HMB := Lib.hid (HMY.out w3 HB5.out)
  have z30 := cell_blk H35.out 0
  have z31 := cell_blk H35.out 1
  have HGA : Hid (b6 < b7) := Lib.hid (by have := HG7.out; have := HNE.out; omega)
  clear HMY
  simp only [Nat.zero_add, Nat.reduceAdd]
  cases hok : delOk s l call days
  · rw [hok, if_neg (by decide)] at HDR
    have HLV := Lib.hid (HOKB.out hok)
    clear hok HOKB HRG
    generalize mayV s l = r at *
    rcases HLV.out with rfl | ⟨rfl, t1⟩ | ⟨rfl, t1, t2⟩ | ⟨rfl, t1, t2, t3⟩ | ⟨rfl, t1, t2, t3, t4⟩
    all_goals
      clear HLV
      go_wp2_with (first
        | ((with_reducible refine (HMB.out).mono ?_); rintro e w6 ⟨rfl, hb6⟩
           have H36 := Lib.hid (blk hb6 (lt_blk H35.out) H35.out); have H66 := Lib.hid (blk hb6 (lt_blk H65.out) H65.out); have H76 := Lib.hid (blk hb6 (lt_blk H7.out) H7.out); have HB6 := Lib.hid (below_then HB5.out hb6); have HO6 := Lib.hid (ownsRow_below HO7.out hb6)
           clear z30 z31; have z70 := cell_blk H76.out 0; have z71 := cell_blk H76.out 1; have z31 := cell_blk H36.out 1; clear hb6)
        | (refine wpList_store_row (P := Tryd.prog) rfl 32 (.tmp 6) (.tmp 38) rfl b6 #[.string s, .slice a7 l.length c7] rfl rfl _ _ H66.out (by kernel_rfl) rfl (by simp [Value.oneCell']) ?_)
        | fail)
      have HK7 : Hid (Keep (fun b => b = b6) w6 (w6.setRow b6 #[.string s, .slice a7 l.length c7])) := Lib.hid (keep_setRow _ _ _)
      have H67 : Hid ((w6.setRow b6 #[.string s, .slice a7 l.length c7]).heap[b6]? = some (.cells #[.string s, .slice a7 l.length c7] 32 (0, 0))) := Lib.hid (heap_setRow H66.out)
      ((try simp only [Exit.inBlock, Exit.then]); refine bodyPost_ret (results_cell_row refDelRes _ _ _ _ _ _ _ rfl H67.out Tryd.underlying32 rfl (by kernel_rfl)) rfl ?_)
      refine ⟨_, rfl, ?_, HK7.out.behind HB6.out HB6.out.size (fun q hq e => by have := HNE.out; omega)⟩
      rw [HDR.out]
      exact ownsRow_base (ownsRow_keep HO6.out HK7.out (fun b hb e => by have h1 := (HO6.out.lt b hb).1; have h4 := HNE.out; omega)) (by have h3 := HNE.out; first | omega | (simp; omega))
  · rw [hok, if_pos rfl] at HDR
    obtain ⟨hm, hc0, hc1, hd0, hd1⟩ := HRG.out hok
    have HOC : Hid (∀ x ∈ l, okC x = true) := Lib.hid (fun x hx => by
      obtain ⟨i, hi, rfl⟩ := List.getElem_of_mem hx
      exact mayCs_at (mayV_cs hm).2.2.2 hi)
    obtain ⟨k0, rfl⟩ : ∃ n : Nat, call = (n : Int) := ⟨call.toNat, by omega⟩
    rw [Int.toNat_natCast] at HDR
    rw [hm] at HMB
    have t1 : decide ((k0 : Int) < 0) = false := decide_eq_false (by omega)
    have t2 : decide ((l.length : Int) ≤ (k0 : Int)) = false := decide_eq_false (by omega)
    have t2' : decide (l.length ≤ k0) = false := decide_eq_false (by omega)
    have t3 : decide (days < 0) = false := decide_eq_false (by omega)
    have t4 : decide (1048576 < days) = false := decide_eq_false (by omega)
    have HKK : Hid (k0 < l.length ∧ 0 ≤ days ∧ days ≤ 1048576) := Lib.hid (by omega)
    obtain ⟨g, c8, cur8, hv8, hh8, hg8⟩ := own_pos HO7.out (by have := HKK.out; omega)
    obtain ⟨rfl, rfl⟩ : a7 = some ⟨g, 0, none⟩ ∧ c7 = c8 := by
      simp only [Value.slice.injEq, true_and] at hv8
      exact hv8
    have HGN : Hid (w2.heap.size ≤ g ∧ ¬ b7 = g) := Lib.hid ⟨hg8, fun e => by
      have h1 := H7.out
      rw [e, hh8] at h1
      simp only [Option.some.injEq, Obj.cells.injEq] at h1
      exact absurd h1.2.1 (by decide)⟩
    clear hok HOKB HRG hm hc0 hc1 hv8 hh8 hg8
    go_wp2_with (first
      | ((with_reducible refine (HMB.out).mono ?_); rintro e w9 ⟨rfl, hb6⟩
         have H39 := Lib.hid (blk hb6 (lt_blk H35.out) H35.out); have H69 := Lib.hid (blk hb6 (lt_blk H65.out) H65.out); have H79 := Lib.hid (blk hb6 (lt_blk H7.out) H7.out); have HB9 := Lib.hid (below_then HB5.out hb6); have HO9 := Lib.hid (ownsRow_below HO7.out hb6)
         clear z30 z31; have z30 := cell_blk H39.out 0; have z31 := cell_blk H39.out 1; clear hb6)
      | fail)
    clear z30 z31 t1 t2 t2' t3 t4
    go_loopw [8] (fun i wr => ∃ k : Nat, k0 ≤ k ∧ k ≤ l.length ∧ i = .int .i64 k ∧ wr.ownsRow w2.heap.size 39 4 (.slice (some ⟨g, 0, none⟩) l.length c7) l.length (clCells (shiftTo l days k0 k)) ∧ Keep (fun b => some g = some b) w9 wr) (fun i _ => l.length - (intOf i).toNat)
    case atStart => exact ⟨k0, Nat.le_refl _, Nat.le_of_lt HKK.out.1, rfl, by rw [shiftTo_start]; exact HO9.out, Keep.refl _ _⟩
    case round =>
      obtain ⟨k, hk0, hk, rfl, hown, hkeep⟩ := hrel
      have HOP := Lib.hid hown
      have HKP := Lib.hid hkeep
      have H7R := Lib.hid (hkeep.blk H79.out (fun e => HGN.out.2 (Option.some.inj e).symm))
      clear hown hkeep
      by_cases hlt : k < l.length
      · have hki : ((k : Nat) : Int) < (l.length : Int) := by omega
        have hkb : (k : Int) ≤ 4000 := by have := HHL.out; omega
        have HKL := Lib.hid (And.intro hk0 hlt)
        have HMX : Hid ((shiftTo l days k0 k)[k]? = some l[k]) := Lib.hid (by rw [List.getElem?_eq_getElem (by rw [shiftTo_len]; exact hlt), shiftTo_at hlt])
        have HML := Lib.hid (shiftTo_len l days k0 k)
        have HNX : Hid ((shiftTo l days k0 k).set k ⟨l[k].port, l[k].cut + days, l[k].arr + days, l[k].dep + days⟩ = shiftTo l days k0 (k + 1)) := Lib.hid (shiftTo_next hk0 hlt)
        obtain ⟨⟨x1, x2⟩, ⟨x3, x4⟩, ⟨x5, x6⟩, -⟩ := okC_range (HOC.out _ (List.getElem_mem hlt))
        obtain ⟨-, y2, y3⟩ := HKK.out
        generalize l[k] = x at *
        obtain ⟨xp, xu, xa, xd⟩ := x
        simp only at x1 x2 x3 x4 x5 x6 HNX
        generalize hM0 : shiftTo l days k0 k = M0 at *
        generalize wr = p0 at *
        clear hk hk0
        have y1 := cell_blk (HKP.out.blk H79.out (fun e => by have := Option.some.inj e; have := HGN.out; omega)) 1
        obtain ⟨d0, d1, d2, d3⟩ := cls_at HOP.out HMX.out HML.out
        go_wp2_with fail
        go_still_tail 13, (by kernel_rfl)
        change wpList _ _ _ _ _ p0.drew
        have HKD : Hid (Keep (fun b => some g = some b) w9 p0.drew) := Lib.hid (HKP.out.trans (Keep.of_below ((Below.refl p0.heap.size p0).drew)) (fun _ _ h => h))
        have HOD := Lib.hid (ownsRow_below HOP.out ((Below.refl p0.heap.size p0).drew))
        clear y1 d0 d1 d2 d3 HKP HOP
        generalize p0.drew = q at *
        have y1 := cell_blk (HKD.out.blk H79.out (fun e => by have := Option.some.inj e; have := HGN.out; omega)) 1
        obtain ⟨d0, d1, d2, d3⟩ := cls_at HOD.out HMX.out HML.out
        obtain ⟨_, _, _, hv0, hh0, -⟩ := own_pos HOD.out (by have := HKL.out; omega)
        obtain ⟨rfl, -⟩ : g = _ ∧ c7 = _ := by simpa using hv0
        have f1 := free_blk hh0 (k * 4 + 2)
        clear hv0 hh0
        go_wp2_with fail
        obtain ⟨p1, hN⟩ : ∃ p, p = q.setCell ⟨g, k * 4 + 2, none⟩ (.int .i64 (xa + days)) := ⟨_, rfl⟩
        rw [← hN]
        have HOP : Hid (p1.ownsRow w2.heap.size 39 4 (.slice (some ⟨g, 0, none⟩) l.length c7) l.length (clCells (M0.set k ⟨xp, xu, xa + days, xd⟩))) := Lib.hid (by rw [hN]; exact own_arr HOD.out HMX.out (xa + days))
        have HMX : Hid ((M0.set k ⟨xp, xu, xa + days, xd⟩)[k]? = some ⟨xp, xu, xa + days, xd⟩) := Lib.hid (by rw [List.getElem?_set]; simp; have := HML.out; have := HKL.out; omega)
        have HML : Hid ((M0.set k ⟨xp, xu, xa + days, xd⟩).length = l.length) := Lib.hid (by rw [List.length_set]; exact HML.out)
        have HKP : Hid (Keep (fun b => some g = some b) w9 p1) := Lib.hid (by rw [hN]; exact HKD.out.trans (Keep.of_grown (Ord.set_grown _ g _ _)) (fun _ _ h => h))
        clear hN HOD HKD y1 d0 d1 d2 d3 f1
        generalize hM1 : M0.set k ⟨xp, xu, xa + days, xd⟩ = M1 at *
        have y1 := cell_blk (HKP.out.blk H79.out (fun e => by have := Option.some.inj e; have := HGN.out; omega)) 1
        obtain ⟨d0, d1, d2, d3⟩ := cls_at HOP.out HMX.out HML.out
        go_still_tail 13, (by kernel_rfl)
        change wpList _ _ _ _ _ p1.drew
        have HKD : Hid (Keep (fun b => some g = some b) w9 p1.drew) := Lib.hid (HKP.out.trans (Keep.of_below ((Below.refl p1.heap.size p1).drew)) (fun _ _ h => h))
        have HOD := Lib.hid (ownsRow_below HOP.out ((Below.refl p1.heap.size p1).drew))
        clear y1 d0 d1 d2 d3 HKP HOP
        generalize p1.drew = q at *
        have y1 := cell_blk (HKD.out.blk H79.out (fun e => by have := Option.some.inj e; have := HGN.out; omega)) 1
        obtain ⟨d0, d1, d2, d3⟩ := cls_at HOD.out HMX.out HML.out
        obtain ⟨_, _, _, hv0, hh0, -⟩ := own_pos HOD.out (by have := HKL.out; omega)
        obtain ⟨rfl, -⟩ : g = _ ∧ c7 = _ := by simpa using hv0
        have f1 := free_blk hh0 (k * 4 + 3)
        clear hv0 hh0
        go_wp2_with fail
        obtain ⟨p2, hN⟩ : ∃ p, p = q.setCell ⟨g, k * 4 + 3, none⟩ (.int .i64 (xd + days)) := ⟨_, rfl⟩
        rw [← hN]
        have HOP : Hid (p2.ownsRow w2.heap.size 39 4 (.slice (some ⟨g, 0, none⟩) l.length c7) l.length (clCells (M1.set k ⟨xp, xu, xa + days, xd + days⟩))) := Lib.hid (by rw [hN]; exact own_dep HOD.out HMX.out (xd + days))
        have HMX : Hid ((M1.set k ⟨xp, xu, xa + days, xd + days⟩)[k]? = some ⟨xp, xu, xa + days, xd + days⟩) := Lib.hid (by rw [List.getElem?_set]; simp; have := HML.out; have := HKL.out; omega)
        have HML : Hid ((M1.set k ⟨xp, xu, xa + days, xd + days⟩).length = l.length) := Lib.hid (by rw [List.length_set]; exact HML.out)
        have HKP : Hid (Keep (fun b => some g = some b) w9 p2) := Lib.hid (by rw [hN]; exact HKD.out.trans (Keep.of_grown (Ord.set_grown _ g _ _)) (fun _ _ h => h))
        clear hN HOD HKD y1 d0 d1 d2 d3 f1
        generalize hM2 : M1.set k ⟨xp, xu, xa + days, xd + days⟩ = M2 at *
        have y1 := cell_blk (HKP.out.blk H79.out (fun e => by have := Option.some.inj e; have := HGN.out; omega)) 1
        obtain ⟨d0, d1, d2, d3⟩ := cls_at HOP.out HMX.out HML.out
        go_still_tail 13, (by kernel_rfl)
        change wpList _ _ _ _ _ p2.drew
        have HKD : Hid (Keep (fun b => some g = some b) w9 p2.drew) := Lib.hid (HKP.out.trans (Keep.of_below ((Below.refl p2.heap.size p2).drew)) (fun _ _ h => h))
        have HOD := Lib.hid (ownsRow_below HOP.out ((Below.refl p2.heap.size p2).drew))
        clear y1 d0 d1 d2 d3 HKP HOP
        generalize p2.drew = q at *
        have y1 := cell_blk (HKD.out.blk H79.out (fun e => by have := Option.some.inj e; have := HGN.out; omega)) 1
        obtain ⟨d0, d1, d2, d3⟩ := cls_at HOD.out HMX.out HML.out
        obtain ⟨_, _, _, hv0, hh0, -⟩ := own_pos HOD.out (by have := HKL.out; omega)
        obtain ⟨rfl, -⟩ : g = _ ∧ c7 = _ := by simpa using hv0
        have f1 := free_blk hh0 (k * 4 + 1)
        clear hv0 hh0
        go_wp2_with fail
        obtain ⟨p3, hN⟩ : ∃ p, p = q.setCell ⟨g, k * 4 + 1, none⟩ (.int .i64 (xu + days)) := ⟨_, rfl⟩
        rw [← hN]
        have HOP : Hid (p3.ownsRow w2.heap.size 39 4 (.slice (some ⟨g, 0, none⟩) l.length c7) l.length (clCells (M2.set k ⟨xp, xu + days, xa + days, xd + days⟩))) := Lib.hid (by rw [hN]; exact own_cut HOD.out HMX.out (xu + days))
        have HMX : Hid ((M2.set k ⟨xp, xu + days, xa + days, xd + days⟩)[k]? = some ⟨xp, xu + days, xa + days, xd + days⟩) := Lib.hid (by rw [List.getElem?_set]; simp; have := HML.out; have := HKL.out; omega)
        have HML : Hid ((M2.set k ⟨xp, xu + days, xa + days, xd + days⟩).length = l.length) := Lib.hid (by rw [List.length_set]; exact HML.out)
        have HKP : Hid (Keep (fun b => some g = some b) w9 p3) := Lib.hid (by rw [hN]; exact HKD.out.trans (Keep.of_grown (Ord.set_grown _ g _ _)) (fun _ _ h => h))
        clear hN HOD HKD y1 d0 d1 d2 d3 f1
        generalize hM3 : M2.set k ⟨xp, xu + days, xa + days, xd + days⟩ = M3 at *
        go_wp2_with fail
        go_roundw
        case rel =>
          refine ⟨k + 1, Nat.le_succ_of_le HKL.out.1, HKL.out.2, by go_num, ?_, HKP.out⟩
          have h := HOP.out
          rw [← hM3, ← hM2, ← hM1, List.set_set, List.set_set, HNX.out] at h
          exact h
        case measure => have := HKL.out; (simp [intOf]) <;> omega
      · have hki : ¬ ((k : Nat) : Int) < (l.length : Int) := by omega
        obtain rfl : k = l.length := by omega
        clear hlt
        have z71 := cell_blk H7R.out 1
        have z70 := cell_blk H7R.out 0
        have H6R := Lib.hid (HKP.out.blk H69.out (fun e => by have := Option.some.inj e; have := HGN.out; have := HNE.out; omega))
        have H3R := Lib.hid (HKP.out.blk H39.out (fun e => by have := Option.some.inj e; have := HGN.out; have := HNE.out; omega))
        have HBR := Lib.hid (HKP.out.behind HB9.out HB9.out.size (fun q hq e => by have := Option.some.inj e; have := HGN.out; have := HNE.out; omega))
        have HSR := Lib.hid (own_cls HOP.out (by rw [shiftTo_len]))
        have HLN := Lib.hid (shiftTo_len l days k0 l.length)
        have HM2 := Lib.hid (refMayP_any s (.slice (some ⟨g, 0, none⟩) l.length c7) (shiftTo l days k0 l.length) wr HSR.out HMZ.out.1 (fun x hx => by
          obtain ⟨i, hi, rfl⟩ := List.getElem_of_mem hx
          simp only [shiftTo, List.getElem_mapIdx]
          have hi' : i < l.length := by rw [shiftTo_len] at hi; exact hi
          have h1 := HMZ.out.2 l[i] (List.getElem_mem hi')
          split
          · exact h1
          · exact h1))
        generalize mayV s (shiftTo l days k0 l.length) = r2 at *
        cases r2
        · go_wp2_with (first
            | ((with_reducible refine (HM2.out).mono ?_); rintro e wa ⟨rfl, hba⟩
               have H6A := Lib.hid (blk hba (lt_blk H6R.out) H6R.out); have H3A0 := Lib.hid (blk hba (lt_blk H3R.out) H3R.out); have HBA := Lib.hid (below_then HBR.out hba)
               clear hba)
            | fail)
          have H3A : Hid (∀ W, Keep (fun k => k = b6) wa W → W.cell? ⟨w.heap.size, 0, none⟩ = some (.string s) ∧ W.cell? ⟨w.heap.size, 1, none⟩ = some (.slice a l.length c)) := Lib.hid (fun W hW => by
            have h1 := hW.blk H3A0.out (fun h => by have := HNE.out; omega)
            exact ⟨cell_blk h1 0, cell_blk h1 1⟩)
          have HSRA : Hid (∀ W, Keep (fun k => k = b6) wa W → Src W 4 (.slice a l.length c) l.length (clCells l)) := Lib.hid (fun W hW => HSR0.out W (hW.behind HBA.out HBA.out.size (fun q hq h => by have := HNE.out; omega)))
          clear z70 z71
          refine Ord.region_lit (fun
            | 0 => Ord.val (.pointer (some ⟨w.heap.size, 0, none⟩))
            | 1 => Ord.val (.string s)
            | 2 => Ord.own wa.heap.size 39 4 (0) ([]) []
            | 3 => Ord.val (.pointer (some ⟨w.heap.size, 1, none⟩))
            | 4 => Ord.val (.slice a l.length c)
            | 5 => Ord.own wa.heap.size 39 4 (0 + l.length) ([] ++ clCells l) [2]
            | 6 => Ord.built (fun s' => #[.string s, s']) wa.heap.size 39 4 (l.length) (clCells l) [5]
            | 7 => Ord.setfill b6 32 (fun s' => #[.string s, s']) wa.heap.size 39 4 (l.length) (clCells l) [6]
            | _ => Ord.idle) (fun k => k = b6) (by kernel_rfl) (by kernel_rfl) (by kernel_rfl) ?_ ?_ ?_ ?_
          · intro i _
            match i with
            | 0 => exact Ord.lasts_val _
            | 1 => exact Ord.lasts_val _
            | 2 => exact Ord.lasts_own _ _ _ _ _ _
            | 3 => exact Ord.lasts_val _
            | 4 => exact Ord.lasts_val _
            | 5 => exact Ord.lasts_own _ _ _ _ _ _
            | 6 => exact Ord.lasts_built _ _ _ _ _ _ _
            | 7 => exact Ord.lasts_setfill _ _ _ _ _ _ _ _ _
            | n + 8 => exact Ord.lasts_idle
          · refine ⟨fun k b _ hh => ?_, fun k b _ hh => ?_, fun k k' b _ _ hne h1 h2 => ?_⟩
            · match k, hh with
              | 0, hh => exact hh.elim
              | 1, hh => exact hh.elim
              | 2, hh => exact hh.elim
              | 3, hh => exact hh.elim
              | 4, hh => exact hh.elim
              | 5, hh => exact hh.elim
              | 6, hh => exact hh.elim
              | 7, hh => exact hh
              | m + 8, hh => exact hh.elim
            · match k, hh with
              | 0, hh => exact hh.elim
              | 1, hh => exact hh.elim
              | 2, hh => exact hh.elim
              | 3, hh => exact hh.elim
              | 4, hh => exact hh.elim
              | 5, hh => exact hh.elim
              | 6, hh => exact hh.elim
              | 7, hh => exact hh ▸ lt_blk H6A.out
              | m + 8, hh => exact hh.elim
            · have a : (k = 7 ∧ (fun k => k = b6) b) := by
                match k, h1 with
                | 0, hh => exact hh.elim
                | 1, hh => exact hh.elim
                | 2, hh => exact hh.elim
                | 3, hh => exact hh.elim
                | 4, hh => exact hh.elim
                | 5, hh => exact hh.elim
                | 6, hh => exact hh.elim
                | 7, hh => exact ⟨rfl, hh⟩
                | m + 8, hh => exact hh.elim
              have a' : (k' = 7 ∧ (fun k => k = b6) b) := by
                match k', h2 with
                | 0, hh => exact hh.elim
                | 1, hh => exact hh.elim
                | 2, hh => exact hh.elim
                | 3, hh => exact hh.elim
                | 4, hh => exact hh.elim
                | 5, hh => exact hh.elim
                | 6, hh => exact hh.elim
                | 7, hh => exact ⟨rfl, hh⟩
                | m + 8, hh => exact hh.elim
              rcases a with ⟨rfl, a⟩ <;> rcases a' with ⟨rfl, a'⟩
              all_goals first | exact absurd rfl hne | (exact hne rfl)
          · refine ⟨?_, ?_, ?_, ?_, ?_, ?_, ?_, ?_, trivial⟩
            · refine Ord.owes_plain rfl fun ρ Os wo hs' hb hc' => ?_
              have h3 : ρ (.tmp 3) = .pointer (some ⟨w.heap.size, 0, none⟩) := hs'.old' 3 (by kernel_rfl)
              go_simp
              exact Ord.post_val rfl rfl
            · refine Ord.owes_plain rfl fun ρ Os wo hs' hb hc' => ?_
              have h89 : ρ (.tmp 89) = .pointer (some ⟨w.heap.size, 0, none⟩) := hs'.val' 89 0 (by kernel_rfl) rfl
              have c0 := (H3A.out wo hb.undrew).1
              go_simp
              exact Ord.post_val rfl rfl
            · refine Ord.owes_plain rfl fun ρ Os wo hs' hb hc' => ?_
              go_simp
              exact Ord.post_own0 (show wa.heap.size ≤ wo.heap.size from hb.size) rfl
            · refine Ord.owes_plain rfl fun ρ Os wo hs' hb hc' => ?_
              have h3 : ρ (.tmp 3) = .pointer (some ⟨w.heap.size, 0, none⟩) := hs'.old' 3 (by kernel_rfl)
              go_simp
              exact Ord.post_val rfl rfl
            · refine Ord.owes_plain rfl fun ρ Os wo hs' hb hc' => ?_
              have h92 : ρ (.tmp 92) = .pointer (some ⟨w.heap.size, 1, none⟩) := hs'.val' 92 3 (by kernel_rfl) rfl
              have c0 := (H3A.out wo hb.undrew).2
              go_simp
              exact Ord.post_val rfl rfl
            · refine Ord.owes_plain rfl fun ρ Os wo hs' hb hc' => ?_
              have h93 : ρ (.tmp 93) = .slice a l.length c := hs'.val' 93 4 (by kernel_rfl) rfl
              exact Ord.ok_own_append Tryd.underlying30 HIC.out.1 HIC.out.2.1 HIC.out.2.2.1 HIC.out.2.2.2 rfl (by decide) (hs'.new' 91 2 (by kernel_rfl)) (by rw [h93]; exact HSRA.out wo hb.undrew) (clCells_one l) HLC.out.1 HLC.out.2 (show wa.heap.size ≤ wo.heap.size from hb.size) List.mem_cons_self rfl
            · refine Ord.owes_plain rfl fun ρ Os wo hs' hb hc' => ?_
              have h90 : ρ (.tmp 90) = .string s := hs'.val' 90 1 (by kernel_rfl) rfl
              obtain ⟨ρ', hr1, hr2⟩ := hs'.new' 94 5 (by kernel_rfl)
              rw [Nat.zero_add, List.nil_append] at hr1
              obtain ⟨a7, c7, hv⟩ := Ord.row_slice hr1
              rw [hv] at hr1 hr2
              go_simp
              exact Ord.post_built (cells := (fun s' => #[.string s, s'])) hr1 hr2 List.mem_cons_self rfl
            · refine Ord.owes_plain rfl fun ρ Os wo hs' hb hc' => ?_
              have h6 : ρ (.tmp 6) = .pointer (some ⟨b6, 0, none⟩) := hs'.old' 6 (by kernel_rfl)
              exact Ord.ok_setfill h6 H6A.out (hs'.here b6 rfl) (hs'.new' 95 6 (by kernel_rfl)) (by decide) (fun _ => by kernel_rfl) (fun _ => rfl) (fun _ _ => by simp [Value.oneCell']) List.mem_cons_self rfl
          intro vals Os ρs wz hk hkn hln hap hbd
          obtain ⟨v9, k1, k2, k3⟩ := hkn 7 (by kernel_rfl)
          have H6Z := Lib.hid k1
          have HOZ := Lib.hid k2
          have HKZ := Lib.hid hk
          clear hkn hln hap hbd hk k1 k2 k3
          simp only [Any.putAll]
          go_frame
          go_wp2_with fail
          ((try simp only [Exit.inBlock, Exit.then]); refine bodyPost_ret (results_cell_row refDelRes _ _ _ _ _ _ _ rfl H6Z.out Tryd.underlying32 rfl (by kernel_rfl)) rfl ?_)
          refine ⟨_, rfl, ?_, HKZ.out.behind HBA.out HBA.out.size (fun q hq e => by have := HNE.out; omega)⟩
          rw [HDR.out]
          exact ownsRow_base HOZ.out (by have h3 := HNE.out; have h5 := HBA.out.size; first | omega | (simp; omega))
        · go_wp2_with (first
            | ((with_reducible refine (HM2.out).mono ?_); rintro e wa ⟨rfl, hba⟩
               have H6A := Lib.hid (blk hba (lt_blk H6R.out) H6R.out); have H7A := Lib.hid (blk hba (lt_blk H7R.out) H7R.out); have HBA := Lib.hid (below_then HBR.out hba); have HOA := Lib.hid (ownsRow_below HOP.out hba)
               have y70 := cell_blk H7A.out 0; have y71 := cell_blk H7A.out 1; clear hba)
            | (refine wpList_store_row (P := Tryd.prog) rfl 32 (.tmp 6) (.tmp 96) rfl b6 #[.string s, .slice (some ⟨g, 0, none⟩) l.length c7] rfl rfl _ _ H6A.out (by kernel_rfl) rfl (by simp [Value.oneCell']) ?_)
            | fail)
          have HKZ : Hid (Keep (fun b => b = b6) wa (wa.setRow b6 #[.string s, .slice (some ⟨g, 0, none⟩) l.length c7])) := Lib.hid (keep_setRow _ _ _)
          have H6Z : Hid ((wa.setRow b6 #[.string s, .slice (some ⟨g, 0, none⟩) l.length c7]).heap[b6]? = some (.cells #[.string s, .slice (some ⟨g, 0, none⟩) l.length c7] 32 (0, 0))) := Lib.hid (heap_setRow H6A.out)
          ((try simp only [Exit.inBlock, Exit.then]); refine bodyPost_ret (results_cell_row refDelRes _ _ _ _ _ _ _ rfl H6Z.out Tryd.underlying32 rfl (by kernel_rfl)) rfl ?_)
          refine ⟨_, rfl, ?_, HKZ.out.behind HBA.out HBA.out.size (fun q hq e => by have := HNE.out; omega)⟩
          rw [HDR.out]
          simp only [if_true]
          rw [HLN.out]
          exact ownsRow_base (ownsRow_keep HOA.out HKZ.out (fun b hb e => by have h1 := (HOA.out.lt b hb).1; have h4 := HNE.out; omega)) (by have h3 := HNE.out; first | omega | (simp; omega))
end Go.Proofs.YtbmjficiceiekaaDoor.Sc
