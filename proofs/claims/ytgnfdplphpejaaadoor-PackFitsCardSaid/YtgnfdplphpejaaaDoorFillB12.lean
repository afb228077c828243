/- fill: by the program. -/
import Derived.Test.YtgnfdplphpejaaaDoorFresh12
namespace Go.Proofs.YtgnfdplphpejaaaDoor.Sc
open Go Go.RowKit Go.ChangeShapes Go.WideShapes Go.ChangeAt
set_option maxRecDepth 100000

/-- A box somewhere in memory. -/
def BoxC (w : World) (bb off : Nat) (m : ByteArray) (k : Int) (v : Value) : Prop := w.cell? ⟨bb, off, none⟩ = some (.string m) ∧ w.cell? ⟨bb, off + 1, none⟩ = some (.int .i64 k) ∧ w.cell? ⟨bb, off + 2, none⟩ = some v
/-- What fill's closure holds. -/
def ClosC (w : World) (b3 b4 b5 bt bb off : Nat) (g : ByteArray) : Prop := w.cell? ⟨b3, 0, none⟩ = some (.pointer (some ⟨bt, 0, none⟩)) ∧ w.cell? ⟨b4, 0, none⟩ = some (.pointer (some ⟨bb, off, none⟩)) ∧ w.cell? ⟨b5, 0, none⟩ = some (.string g)
set_option maxHeartbeats 4000000 in
theorem mayF_any (t : List Gd) (m g : ByteArray) (k n : Int) (L : List Lt) (bt bm b3 b4 b5 bb off : Nat) (vl : Value) (w : World) (hap : ApT w) (hs : Sl w 2 vl (L.map Lt.row)) (hl : L.length ≤ 3000) (htab : Tab w bt bm t) (hn : (codes t).Nodup) (hok : ∀ g ∈ t, gdOk g = true)
    (hcl : ClosC w b3 b4 b5 bt bb off g) (hbx : BoxC w bb off m k vl) (hlt : b3 < w.heap.size ∧ b4 < w.heap.size ∧ b5 < w.heap.size ∧ bb < w.heap.size) :
    Calls Tryd.prog 59 #[.int .i64 n, .pointer (some ⟨b3, 0, none⟩), .pointer (some ⟨b4, 0, none⟩), .pointer (some ⟨b5, 0, none⟩)] w (RetB w (goP t k (L ++ [⟨g, n⟩]))) := by
  obtain ⟨al, cl, rfl⟩ : ∃ a c, vl = .slice a L.length c := by simpa using hs.shape
  obtain ⟨r, hr⟩ : ∃ r, r = goP t k (L ++ [⟨g, n⟩]) := ⟨_, rfl⟩
  have HQ := Lib.hid hr.symm
  have HFT : Hid (∀ W, Below w.heap.size w W → Calls Tryd.prog 9 #[.pointer (some ⟨bt, 0, none⟩), .agg #[.string m, .int .i64 k, .slice al L.length cl], .agg #[.string g, .int .i64 n]] W (RetB W r)) := Lib.hid (fun W hW => by
    rw [hr]
    exact fits_any t m k L ⟨g, n⟩ bt bm _ W (hap.below hW) (hs.below hW (Nat.le_refl _)) hl (htab.below hW) hn hok)
  have HC : Hid (∀ W, Below w.heap.size w W → W.cell? ⟨b3, 0, none⟩ = some (.pointer (some ⟨bt, 0, none⟩)) ∧ W.cell? ⟨b4, 0, none⟩ = some (.pointer (some ⟨bb, off, none⟩)) ∧ W.cell? ⟨b5, 0, none⟩ = some (.string g) ∧
      W.cell? ⟨bb, off, none⟩ = some (.string m) ∧ W.cell? ⟨bb, off + 1, none⟩ = some (.int .i64 k) ∧ W.cell? ⟨bb, off + 2, none⟩ = some (.slice al L.length cl)) := Lib.hid (fun W hW =>
    ⟨(hW.cell (p := ⟨b3, 0, none⟩) hlt.1).trans hcl.1, (hW.cell (p := ⟨b4, 0, none⟩) hlt.2.1).trans hcl.2.1, (hW.cell (p := ⟨b5, 0, none⟩) hlt.2.2.1).trans hcl.2.2,
     (hW.cell (p := ⟨bb, off, none⟩) hlt.2.2.2).trans hbx.1, (hW.cell (p := ⟨bb, off + 1, none⟩) hlt.2.2.2).trans hbx.2.1, (hW.cell (p := ⟨bb, off + 2, none⟩) hlt.2.2.2).trans hbx.2.2⟩)
  clear hap hs hl htab hn hok hcl hbx hlt hr
  go_enter Tryd.func59, Tryd.ntmps59
  go_wp2_with fail
  refine Any.region_lit (fun
    | 0 => Any.val (.pointer (some ⟨bt, 0, none⟩))
    | 1 => Any.val (.pointer (some ⟨bb, off, none⟩))
    | 2 => Any.val (.pointer (some ⟨bb, off, none⟩))
    | 3 => Any.val (.agg #[.string m, .int .i64 k, .slice al L.length cl])
    | 4 => Any.val (.pointer (some ⟨b5, 0, none⟩))
    | 5 => Any.val (.string g)
    | 6 => Any.val (.int .i64 n)
    | 7 => Any.val (.agg #[.string g, .int .i64 n])
    | 8 => Any.val (.bool r)
    | 9 => Any.val (.bool r)
    | _ => Any.idle) (by kernel_rfl) (by kernel_rfl) (by kernel_rfl) ?_ ?_ ?_
  · intro i _
    match i with
    | 0 => exact Any.lasts_val _
    | 1 => exact Any.lasts_val _
    | 2 => exact Any.lasts_val _
    | 3 => exact Any.lasts_val _
    | 4 => exact Any.lasts_val _
    | 5 => exact Any.lasts_val _
    | 6 => exact Any.lasts_val _
    | 7 => exact Any.lasts_val _
    | 8 => exact Any.lasts_val _
    | 9 => exact Any.lasts_val _
    | n + 10 => exact Any.lasts_idle
  · refine ⟨?_, ?_, ?_, ?_, ?_, ?_, ?_, ?_, ?_, ?_, trivial⟩
    · refine Any.owes_plain rfl fun ρ wo hs' hb hc' => ?_
      have h1 : ρ (.tmp 1) = .pointer (some ⟨b3, 0, none⟩) := hs'.old' 1 (by kernel_rfl)
      have c0 := (HC.out wo (below_undrew hb)).1
      go_simp
      exact Any.post_val hb rfl rfl
    · refine Any.owes_plain rfl fun ρ wo hs' hb hc' => ?_
      have h2 : ρ (.tmp 2) = .pointer (some ⟨b4, 0, none⟩) := hs'.old' 2 (by kernel_rfl)
      have c0 := (HC.out wo (below_undrew hb)).2.1
      go_simp
      exact Any.post_val hb rfl rfl
    · refine Any.owes_plain rfl fun ρ wo hs' hb hc' => ?_
      have h7 : ρ (.tmp 7) = .pointer (some ⟨bb, off, none⟩) := hs'.new' 7 1 (by kernel_rfl)
      go_simp
      exact Any.post_val hb rfl rfl
    · refine Any.owes_plain rfl fun ρ wo hs' hb hc' => ?_
      have h8 : ρ (.tmp 8) = .pointer (some ⟨bb, off, none⟩) := hs'.new' 8 2 (by kernel_rfl)
      obtain ⟨c0, c1, c2⟩ := (HC.out wo (below_undrew hb)).2.2.2
      go_simp
      exact Any.post_val hb rfl rfl
    · refine Any.owes_plain rfl fun ρ wo hs' hb hc' => ?_
      have h3 : ρ (.tmp 3) = .pointer (some ⟨b5, 0, none⟩) := hs'.old' 3 (by kernel_rfl)
      go_simp
      exact Any.post_val hb rfl rfl
    · refine Any.owes_plain rfl fun ρ wo hs' hb hc' => ?_
      have h10 : ρ (.tmp 10) = .pointer (some ⟨b5, 0, none⟩) := hs'.new' 10 4 (by kernel_rfl)
      have c0 := (HC.out wo (below_undrew hb)).2.2.1
      go_simp
      exact Any.post_val hb rfl rfl
    · refine Any.owes_plain rfl fun ρ wo hs' hb hc' => ?_
      have h0 : ρ (.tmp 0) = .int .i64 n := hs'.old' 0 (by kernel_rfl)
      exact Any.ok_move (Any.post_val hb rfl h0)
    · refine Any.owes_plain rfl fun ρ wo hs' hb hc' => ?_
      have h11 : ρ (.tmp 11) = .string g := hs'.new' 11 5 (by kernel_rfl)
      have h12 : ρ (.tmp 12) = .int .i64 n := hs'.new' 12 6 (by kernel_rfl)
      go_simp
      exact Any.post_val hb rfl rfl
    · refine Any.owes_plain rfl fun ρ wo hs' hb hc' => ?_
      have h6 : ρ (.tmp 6) = .pointer (some ⟨bt, 0, none⟩) := hs'.new' 6 0 (by kernel_rfl)
      have h9 : ρ (.tmp 9) = .agg #[.string m, .int .i64 k, .slice al L.length cl] := hs'.new' 9 3 (by kernel_rfl)
      have h13 : ρ (.tmp 13) = .agg #[.string g, .int .i64 n] := hs'.new' 13 7 (by kernel_rfl)
      have hf := hs'.func 9
      go_simp
      exact (HFT.out wo (below_undrew hb)).mono fun e w' ⟨he, hb'⟩ => ⟨_, he, Any.post_vals hb rfl rfl hb'⟩
    · refine Any.owes_plain rfl fun ρ wo hs' hb hc' => ?_
      have h14 : ρ (.tmp 14) = .bool r := hs'.new' 14 8 (by kernel_rfl)
      exact Any.ok_assign (Any.post_val hb rfl h14)
  intro vals w5 hb hk ha
  have h9 : vals 9 = .bool r := hk 9 (by kernel_rfl)
  have HBZ := Lib.hid hb
  clear hk ha hb
  simp only [Any.putAll]
  go_frame
  simp only [Nat.zero_add, Nat.reduceAdd]
  rw [h9]
  clear h9
  go_wp2_with fail
  go_ret
  exact retB HQ.out.symm HBZ.out
set_option maxHeartbeats 4000000 in
/-- The greatest number that may be. -/
theorem halves_any (may : Nat → Bool) (hmono : ∀ i j, may j = true → 1 ≤ i → i ≤ j → may i = true) (c : Nat) (hc : c ≤ 1099511627776) (b3 b4 b5 : Nat) (w : World)
    (hcall : ∀ W (n : Nat), Below w.heap.size w W → 1 ≤ n → Calls Tryd.prog 59 #[.int .i64 n, .pointer (some ⟨b3, 0, none⟩), .pointer (some ⟨b4, 0, none⟩), .pointer (some ⟨b5, 0, none⟩)] W (RetB W (may n))) :
    Calls Tryd.prog 60 #[.int .i64 c, .func (.func 59) #[] #[.pointer (some ⟨b3, 0, none⟩), .pointer (some ⟨b4, 0, none⟩), .pointer (some ⟨b5, 0, none⟩)]] w (Ret w (.int .i64 (mostP may c))) := by
  have HCL := Lib.hid hcall
  have HMO := Lib.hid hmono
  clear hcall hmono
  go_enter Tryd.func60, Tryd.ntmps60
  go_wp2_with fail
  go_loopw [0, 5, 6] (fun hi lo _ wr => ∃ a b : Nat, a ≤ b ∧ b ≤ c ∧ lo = .int .i64 a ∧ hi = .int .i64 b ∧ (a = 0 ∨ may a = true) ∧ (∀ k, b < k → k ≤ c → may k = false) ∧ Below w.heap.size w wr) (fun hi lo _ _ => ((intOf hi) - (intOf lo)).toNat)
  case atStart => exact ⟨0, c, Nat.zero_le _, Nat.le_refl _, rfl, rfl, .inl rfl, fun k h1 h2 => by omega, Below.refl _ _⟩
  case round =>
    obtain ⟨a, b, hab, hbc, rfl, rfl, h1, h2, hbel⟩ := hrel
    have HBEL := Lib.hid hbel
    have H1 := Lib.hid h1
    have H2 := Lib.hid h2
    clear hbel h1 h2
    by_cases hlt : a < b
    · obtain ⟨n, hn⟩ : ∃ n : Nat, n = a + (b - a + 1) / 2 := ⟨_, rfl⟩
      have e1 : Int.tdiv ((b : Int) - (a : Int) + 1) 2 = ((b : Int) - a + 1) / 2 := Int.tdiv_eq_ediv_of_nonneg (by omega)
      have e2 : (a : Int) + ((b : Int) - a + 1) / 2 = (n : Int) := by omega
      have t1 : decide ((a : Int) < (b : Int)) = true := decide_eq_true (by omega)
      have HN : Hid (a < n ∧ n ≤ b) := Lib.hid (by omega)
      have HCN := Lib.hid (fun W hW => HCL.out W n hW (by omega))
      have HUP : Hid (may n = false → ∀ k, n - 1 < k → k ≤ c → may k = false) := Lib.hid (fun hm k hk1 hk2 => by
        cases hk : may k with
        | false => rfl
        | true => rw [HMO.out n k hk (by omega) (by omega)] at hm; cases hm)
      clear hn
      generalize hmn : may n = r at *
      cases r
      · go_wp2_with (first
          | ((with_reducible refine (HCN.out _ HBEL.out).mono ?_); rintro e w2 ⟨rfl, hb2⟩; have HB2 := Lib.hid (HBEL.out.trans (hb2.mono HBEL.out.size)); clear hb2)
          | fail)
        go_roundw
        case rel =>
          have h3 := HN.out
          exact ⟨a, n - 1, by omega, by omega, rfl, by go_num, H1.out, HUP.out (by first | rfl | trivial), HB2.out⟩
        case measure =>
          have h3 := HN.out
          (simp [intOf]) <;> omega
      · have HM := Lib.hid hmn
        go_wp2_with (first
          | ((with_reducible refine (HCN.out _ HBEL.out).mono ?_); rintro e w2 ⟨rfl, hb2⟩; have HB2 := Lib.hid (HBEL.out.trans (hb2.mono HBEL.out.size)); clear hb2)
          | fail)
        go_roundw
        case rel =>
          have h3 := HN.out
          exact ⟨n, b, by omega, by omega, by go_num, rfl, .inr HM.out, H2.out, HB2.out⟩
        case measure =>
          have h3 := HN.out
          (simp [intOf]) <;> omega
    · have t1 : decide ((a : Int) < (b : Int)) = false := decide_eq_false (by omega)
      have HQ : Hid (mostP may c = a) := Lib.hid (mostP_eq (by omega) H1.out fun k hk1 hk2 => H2.out k (by omega) hk2)
      go_wp2_with fail
      go_ret
      exact ⟨by rw [HQ.out]; rfl, HBEL.out⟩
end Go.Proofs.YtgnfdplphpejaaaDoor.Sc
namespace Go.Proofs.YtgnfdplphpejaaaDoor.Sc
open Go Go.RowKit Go.ChangeShapes Go.WideShapes Go.ChangeAt
set_option maxRecDepth 100000

theorem own_block_cells {w : World} {B n sz : Nat} {e : TypeId} {v : Value} {xs : List Value} {b : Nat} (h : w.ownsRow B e sz v n xs) (hb : v.ownBlock = some b) : ∃ c, w.heap[b]? = some (.cells c e (0, 0)) := by
  rcases h.2 with ⟨rfl, _⟩ | ⟨g, cap, cur, rfl, _, hh, _⟩
  · cases hb
  · obtain rfl : g = b := Option.some.inj hb
    exact ⟨cur, hh⟩
/-- Behind fill. -/
def FilP (w : World) (bb off : Nat) (cs : Array Value) (vl : Value) (L : List Lt) (g : ByteArray) (n : Nat) (e : Ending) (w' : World) : Prop :=
  e = .returned (.int .i64 n) ∧ ((n = 0 ∧ Below w.heap.size w w') ∨ (0 < n ∧ ∃ v', w'.ownsRow 0 35 2 v' (L.length + 1) (ltCells (L ++ [⟨g, n⟩])) ∧ w'.heap[bb]? = some (.cells (cs.setIfInBounds (off + 2) v') 33 (0, 0)) ∧
    (∀ b, v'.ownBlock = some b → vl.ownBlock = some b ∨ w.heap.size ≤ b) ∧ Keep (fun k => k = bb ∨ vl.ownBlock = some k) w w'))
set_option maxHeartbeats 8000000 in
theorem fill_any (t : List Gd) (m g : ByteArray) (k c : Int) (L : List Lt) (bt bm bb off : Nat) (cs : Array Value) (vl : Value) (w : World) (hap : ApT w) (hs : w.ownsRow 0 35 2 vl L.length (ltCells L)) (hl : L.length ≤ 2000) (htab : Tab w bt bm t) (hn : (codes t).Nodup) (hok : ∀ g ∈ t, gdOk g = true)
    (hbx : w.heap[bb]? = some (.cells cs 33 (0, 0))) (hc0 : cs[off]? = some (.string m)) (hc1 : cs[off + 1]? = some (.int .i64 k)) (hc2 : cs[off + 2]? = some vl) (hcc : c ≤ 1099511627776) :
    Calls Tryd.prog 43 #[.pointer (some ⟨bt, 0, none⟩), .pointer (some ⟨bb, off, none⟩), .agg #[.string g, .int .i64 c]] w (FilP w bb off cs vl L g (fillN t k L g c)) := by
  have hsl := own_lots hs rfl
  obtain ⟨al, cl, rfl⟩ : ∃ a c, vl = .slice a L.length c := by simpa using hsl.shape
  have hltb := lt_blk hbx
  obtain ⟨w5, hw5⟩ : ∃ w5, w5 = ((w.alloc (.cells #[.pointer (some ⟨bt, 0, none⟩)] 26)).alloc (.cells #[.pointer (some ⟨bb, off, none⟩)] 82)).alloc (.cells #[.string g, .int .i64 c] 35) := ⟨_, rfl⟩
  obtain ⟨b3, hb3⟩ : ∃ b, b = w.heap.size := ⟨_, rfl⟩
  obtain ⟨b4, hb4⟩ : ∃ b, b = w.heap.size + 1 := ⟨_, rfl⟩
  obtain ⟨b5, hb5⟩ : ∃ b, b = w.heap.size + 1 + 1 := ⟨_, rfl⟩
  have h3 : w5.heap[b3]? = some (.cells #[.pointer (some ⟨bt, 0, none⟩)] 26 (0, 0)) := by
    rw [hw5, hb3]
    exact blk (one_below _ _) (by simp; omega) (blk (one_below _ _) (by simp) (heap_alloc_new w _))
  have h4 : w5.heap[b4]? = some (.cells #[.pointer (some ⟨bb, off, none⟩)] 82 (0, 0)) := by
    rw [hw5, hb4]
    refine blk (one_below _ _) (by simp) ?_
    have := heap_alloc_new (w.alloc (.cells #[.pointer (some ⟨bt, 0, none⟩)] 26)) (.cells #[.pointer (some ⟨bb, off, none⟩)] 82)
    simpa using this
  have h5 : w5.heap[b5]? = some (.cells #[.string g, .int .i64 c] 35 (0, 0)) := by
    rw [hw5, hb5]
    have := heap_alloc_new ((w.alloc (.cells #[.pointer (some ⟨bt, 0, none⟩)] 26)).alloc (.cells #[.pointer (some ⟨bb, off, none⟩)] 82)) (.cells #[.string g, .int .i64 c] 35)
    simpa using this
  have hb05 : Below w.heap.size w w5 := by
    rw [hw5]
    exact (one_below w _).trans (((one_below _ _).mono (by simp)).trans ((one_below _ _).mono (by simp; omega)))
  have hneb : ∀ j, (Value.slice al L.length cl).ownBlock = some j → j ≠ bb := fun j hj e => by
    subst e
    obtain ⟨c', hc'⟩ := own_block_cells hs hj
    rw [hbx] at hc'
    simp only [Option.some.injEq, Obj.cells.injEq] at hc'
    exact absurd hc'.2.1 (by decide)
  have hown : ∀ j, (Value.slice al L.length cl).ownBlock = some j → j < w.heap.size := fun j hj => by
    obtain ⟨c', hc'⟩ := own_block_cells hs hj
    exact lt_blk hc'
  have HLB : Hid (b3 < w5.heap.size ∧ b4 < w5.heap.size ∧ b5 < w5.heap.size ∧ bb < w5.heap.size) := Lib.hid ⟨lt_blk h3, lt_blk h4, lt_blk h5, Nat.lt_of_lt_of_le hltb hb05.size⟩
  have hcl5 : ∀ W, Below w5.heap.size w5 W → ClosC W b3 b4 b5 bt bb off g := fun W hW => ⟨cell_blk (blk hW (lt_blk h3) h3) 0, cell_blk (blk hW (lt_blk h4) h4) 0, cell_blk (blk hW (lt_blk h5) h5) 0⟩
  have hbx5 : ∀ W, Below w5.heap.size w5 W → W.heap[bb]? = some (.cells cs 33 (0, 0)) := fun W hW => blk (hb05.trans (hW.mono hb05.size)) hltb hbx
  have HMAY : Hid (∀ W (n : Nat), Below w5.heap.size w5 W → 1 ≤ n → Calls Tryd.prog 59 #[.int .i64 n, .pointer (some ⟨b3, 0, none⟩), .pointer (some ⟨b4, 0, none⟩), .pointer (some ⟨b5, 0, none⟩)] W (RetB W (mayN t k L g n))) := Lib.hid (fun W n hW _ => by
    have hB := hb05.trans (hW.mono hb05.size)
    have hq := hbx5 W hW
    refine mayF_any t m g k n L bt bm b3 b4 b5 bb off _ W (hap.below hB) (hsl.below hB (Nat.le_refl _)) (by omega) (htab.below hB) hn hok (hcl5 W hW) ⟨(cell_blk hq off).trans hc0, (cell_blk hq (off + 1)).trans hc1, (cell_blk hq (off + 2)).trans hc2⟩ ?_
    have h := HLB.out
    have := hW.size
    omega)
  have HM1 : Hid (∀ W, Below w5.heap.size w5 W → Calls Tryd.prog 59 #[.int .i64 1, .pointer (some ⟨b3, 0, none⟩), .pointer (some ⟨b4, 0, none⟩), .pointer (some ⟨b5, 0, none⟩)] W (RetB W (mayN t k L g 1))) := Lib.hid (fun W hW => HMAY.out W 1 hW (Nat.le_refl _))
  have HB05 := Lib.hid hb05
  have HX5 := Lib.hid h5
  have HN0 := Lib.hid (fun h : fillN t k L g c = 0 => fun W hW => (⟨by rw [h]; rfl, .inl ⟨h, hW⟩⟩ : FilP w bb off cs (.slice al L.length cl) L g (fillN t k L g c) (.returned (.int .i64 0)) W))
  have y1 := cell_blk HX5.out 1
  by_cases hc1' : c < 1
  · have t1 : decide (c < 1) = true := decide_eq_true hc1'
    have HZ := Lib.hid (HN0.out (fillN_zero hc1'))
    clear hs hl htab hn hok hbx hc0 hc1 hc2 hcc hsl hltb h3 h4 h5 hneb hown hcl5 hbx5 HMAY HM1 HLB hap HN0 hc1' hb05
    go_enter Tryd.func43, Tryd.ntmps43
    go_wp2_with fail
    rw [← hb5, ← hb4, ← hb3, ← hw5]
    go_wp2_with fail
    go_ret
    exact HZ.out _ HB05.out
  have t1 : decide (c < 1) = false := decide_eq_false hc1'
  obtain ⟨r1, hr1⟩ : ∃ r, r = mayN t k L g 1 := ⟨_, rfl⟩
  rw [← hr1] at HM1
  cases r1
  · have HZ := Lib.hid (HN0.out (fillN_none hok hr1.symm))
    clear hs hl htab hn hok hbx hc0 hc1 hc2 hcc hsl hltb h3 h4 h5 hneb hown hcl5 hbx5 HMAY HLB hap HN0 hc1' hb05 hr1
    go_enter Tryd.func43, Tryd.ntmps43
    go_wp2_with fail
    rw [← hb5, ← hb4, ← hb3, ← hw5]
    go_wp2_with (first
      | ((with_reducible refine (HM1.out _ (Below.refl _ _)).mono ?_); rintro e w6 ⟨rfl, hb6⟩; have HB6 := Lib.hid (HB05.out.trans (hb6.mono HB05.out.size)); clear hb6)
      | fail)
    go_ret
    exact HZ.out _ HB6.out
  have hn1 := fillN_some (c := c) (by omega) hr1.symm
  have hnc := fillN_le t k L g c
  obtain ⟨cn, rfl⟩ : ∃ cn : Nat, c = (cn : Int) := ⟨c.toNat, by omega⟩
  have HH := Lib.hid (fun W (hW : Below w5.heap.size w5 W) => (halves_any (mayN t k L g) (fun i j h1 h2 h3 => mayN_less hok h1 h2 h3) cn (by omega) b3 b4 b5 W (fun V n hV h1 => HMAY.out V n (hW.trans (hV.mono hW.size)) h1)).mono fun e w' h => (show Ret W (.int .i64 (fillN t k L g (cn : Int))) e w' from h))
  have hn2 : fillN t k L g (cn : Int) ≤ 1099511627776 := by omega
  have HFP := Lib.hid (fun (n : Nat) (hnn : 1 ≤ n) (W : World) (hW : Below w.heap.size w W) => fun (v' : Value) (w' : World) (q1 : w'.ownsRow 0 35 2 v' (L.length + 1) (ltCells L ++ [.string g, .int .i64 n])) (q2 : w'.heap[bb]? = some (.cells (cs.setIfInBounds (off + 2) v') 33 (0, 0)))
      (q3 : ∀ b, v'.ownBlock = some b → (Value.slice al L.length cl).ownBlock = some b ∨ W.heap.size ≤ b) (q4 : Keep (fun k => k = bb ∨ (Value.slice al L.length cl).ownBlock = some k) W w') =>
    (⟨rfl, .inr ⟨hnn, v', by rw [ltCells_append]; exact q1, q2, fun b hb => (q3 b hb).imp id (Nat.le_trans hW.size), (Keep.of_below hW).trans q4 (fun i _ h => h)⟩⟩ : FilP w bb off cs (.slice al L.length cl) L g n (.returned (.int .i64 n)) w'))
  generalize fillN t k L g (cn : Int) = n at *
  have HS := Lib.hid hs
  have HBX0 := Lib.hid hbx
  have HCL5 := Lib.hid hcl5
  have HL7 : Hid (L.length + 1 ≤ maxLen ∧ (L.length + 1) * 24 ≤ 140737488355328) := Lib.hid (by simp only [maxLen]; omega)
  have HNE := Lib.hid hneb
  have HOFF : Hid (off + 2 < cs.size) := Lib.hid (by
    have := (Array.getElem?_eq_some_iff.1 hc2).1
    exact this)
  have HCV := Lib.hid hc2
  have HNF : Hid (∀ b, w.heap.size ≤ b → ¬ (b = bb ∨ (Value.slice al L.length cl).ownBlock = some b)) := Lib.hid (fun b hb h => h.elim (fun e => by subst e; omega) (fun e => by have := hown b e; omega))
  have HB45 : Hid (w.heap.size ≤ b4 ∧ w.heap.size ≤ b5) := Lib.hid (by omega)
  obtain ⟨i0, hi, hz, hsz, hby⟩ := info_parts infoLt
  have HI := Lib.hid (And.intro hi (And.intro hz (And.intro hsz hby)))
  clear hs hl htab hn hok hbx hc0 hc1 hc2 hcc hsl hltb h3 h4 h5 hneb hown hcl5 hbx5 HMAY hap HN0 hc1' hb05 hr1 hi hz hsz hby hnc
  go_enter Tryd.func43, Tryd.ntmps43
  go_wp2_with fail
  rw [← hb5, ← hb4, ← hb3, ← hw5]
  clear hb5 hb4 hb3 hw5
  go_wp2_with (first
    | ((with_reducible refine (HM1.out _ (Below.refl _ _)).mono ?_); rintro e w6 ⟨rfl, hb6⟩; have HB6 := Lib.hid hb6; have HX5 := Lib.hid (blk hb6 (lt_blk HX5.out) HX5.out); clear y1; have y1 := cell_blk HX5.out 1; clear hb6)
    | ((with_reducible refine (HH.out _ HB6.out).mono ?_); rintro e w7 ⟨rfl, hb7⟩; have HB7 := Lib.hid (HB6.out.trans (hb7.mono HB6.out.size)); clear hb7)
    | fail)
  have HBW := Lib.hid (HB05.out.trans (HB7.out.mono HB05.out.size))
  have HROW := Lib.hid (ownsRow_below HS.out HBW.out)
  have HBX := Lib.hid (blk HBW.out (lt_blk HBX0.out) HBX0.out)
  have HCL2 := Lib.hid (HCL5.out _ HB7.out)
  have HLB : Hid (b3 < w7.heap.size ∧ b4 < w7.heap.size ∧ b5 < w7.heap.size ∧ bb < w7.heap.size) := Lib.hid (by have h := HLB.out; have := HB7.out.size; omega)
  have HF4 := Lib.hid (HNF.out b4 HB45.out.1)
  have HF5 := Lib.hid (HNF.out b5 HB45.out.2)
  have HEND := Lib.hid (HFP.out n hn1 w7 HBW.out)
  clear y1
  refine Ord.region_lit (fun
    | 0 => Ord.val (.pointer (some ⟨bb, off, none⟩))
    | 1 => Ord.val (.pointer (some ⟨bb, off, none⟩))
    | 2 => Ord.val (.pointer (some ⟨bb, off, none⟩))
    | 3 => Ord.val (.pointer (some ⟨bb, off + 2, none⟩))
    | 4 => Ord.val (.slice al L.length cl)
    | 5 => Ord.val (.pointer (some ⟨b5, 0, none⟩))
    | 6 => Ord.val (.string g)
    | 7 => Ord.val (.int .i64 (n : Int))
    | 8 => Ord.val (.agg #[.string g, .int .i64 (n : Int)])
    | 9 => Ord.one 35 #[.string g, .int .i64 (n : Int)]
    | 10 => Ord.grown 35 2 (L.length + 1) (ltCells L ++ [.string g, .int .i64 (n : Int)]) 9 (Value.slice al L.length cl)
    | 11 => Ord.val (.pointer (some ⟨bb, off, none⟩))
    | 12 => Ord.val (.pointer (some ⟨bb, off + 2, none⟩))
    | 13 => Ord.kept 35 2 (L.length + 1) (ltCells L ++ [.string g, .int .i64 (n : Int)]) (bb) (fun v => cs.setIfInBounds (off + 2) v) 33 10
    | _ => Ord.idle) (fun k => k = bb ∨ (Value.slice al L.length cl).ownBlock = some k) (by kernel_rfl) (by kernel_rfl) (by kernel_rfl) ?_ ?_ ?_ ?_
  · intro i _
    match i with
    | 0 => exact Ord.lasts_val _
    | 1 => exact Ord.lasts_val _
    | 2 => exact Ord.lasts_val _
    | 3 => exact Ord.lasts_val _
    | 4 => exact Ord.lasts_val _
    | 5 => exact Ord.lasts_val _
    | 6 => exact Ord.lasts_val _
    | 7 => exact Ord.lasts_val _
    | 8 => exact Ord.lasts_val _
    | 9 => exact Ord.lasts_one _ _
    | 10 => exact Ord.lasts_grown _ _ _ _ _ _
    | 11 => exact Ord.lasts_val _
    | 12 => exact Ord.lasts_val _
    | 13 => exact Ord.lasts_kept _ _ _ _ _ _ _ _
    | n + 14 => exact Ord.lasts_idle
  · refine ⟨fun k b _ hh => ?_, fun k b _ hh => ?_, fun k k' b _ _ hne h1 h2 => ?_⟩
    · match k, hh with
      | 0, hh => exact hh.elim
      | 1, hh => exact hh.elim
      | 2, hh => exact hh.elim
      | 3, hh => exact hh.elim
      | 4, hh => exact hh.elim
      | 5, hh => exact hh.elim
      | 6, hh => exact hh.elim
      | 7, hh => exact hh.elim
      | 8, hh => exact hh.elim
      | 9, hh => exact hh.elim
      | 10, hh => exact .inr hh
      | 11, hh => exact hh.elim
      | 12, hh => exact hh.elim
      | 13, hh => exact .inl hh
      | m + 14, hh => exact hh.elim
    · match k, hh with
      | 0, hh => exact hh.elim
      | 1, hh => exact hh.elim
      | 2, hh => exact hh.elim
      | 3, hh => exact hh.elim
      | 4, hh => exact hh.elim
      | 5, hh => exact hh.elim
      | 6, hh => exact hh.elim
      | 7, hh => exact hh.elim
      | 8, hh => exact hh.elim
      | 9, hh => exact hh.elim
      | 10, hh => exact (HROW.out.lt b hh).2
      | 11, hh => exact hh.elim
      | 12, hh => exact hh.elim
      | 13, hh => exact hh ▸ lt_blk HBX.out
      | m + 14, hh => exact hh.elim
    · have a : (k = 10 ∧ (fun k => (Value.slice al L.length cl).ownBlock = some k) b) ∨ (k = 13 ∧ (fun k => k = bb) b) := by
        match k, h1 with
        | 0, hh => exact hh.elim
        | 1, hh => exact hh.elim
        | 2, hh => exact hh.elim
        | 3, hh => exact hh.elim
        | 4, hh => exact hh.elim
        | 5, hh => exact hh.elim
        | 6, hh => exact hh.elim
        | 7, hh => exact hh.elim
        | 8, hh => exact hh.elim
        | 9, hh => exact hh.elim
        | 10, hh => exact .inl ⟨rfl, hh⟩
        | 11, hh => exact hh.elim
        | 12, hh => exact hh.elim
        | 13, hh => exact Or.inr (⟨rfl, hh⟩)
        | m + 14, hh => exact hh.elim
      have a' : (k' = 10 ∧ (fun k => (Value.slice al L.length cl).ownBlock = some k) b) ∨ (k' = 13 ∧ (fun k => k = bb) b) := by
        match k', h2 with
        | 0, hh => exact hh.elim
        | 1, hh => exact hh.elim
        | 2, hh => exact hh.elim
        | 3, hh => exact hh.elim
        | 4, hh => exact hh.elim
        | 5, hh => exact hh.elim
        | 6, hh => exact hh.elim
        | 7, hh => exact hh.elim
        | 8, hh => exact hh.elim
        | 9, hh => exact hh.elim
        | 10, hh => exact .inl ⟨rfl, hh⟩
        | 11, hh => exact hh.elim
        | 12, hh => exact hh.elim
        | 13, hh => exact Or.inr (⟨rfl, hh⟩)
        | m + 14, hh => exact hh.elim
      rcases a with ⟨rfl, a⟩ | ⟨rfl, a⟩ <;> rcases a' with ⟨rfl, a'⟩ | ⟨rfl, a'⟩
      all_goals first | exact absurd rfl hne | (first | exact HNE.out _ a a' | exact HNE.out _ a' a)
  · refine ⟨?_, ?_, ?_, ?_, ?_, ?_, ?_, ?_, ?_, ?_, ?_, ?_, ?_, ?_, trivial⟩
    · refine Ord.owes_plain rfl fun ρ Os wo hs' hb hc' => ?_
      have h4 : ρ (.tmp 4) = .pointer (some ⟨b4, 0, none⟩) := hs'.old' 4 (by kernel_rfl)
      have c0 : wo.cell? ⟨b4, 0, none⟩ = some (.pointer (some ⟨bb, off, none⟩)) := (hb.undrew.cell HLB.out.2.1 HF4.out).trans HCL2.out.2.1
      go_simp
      exact Ord.post_val rfl rfl
    · refine Ord.owes_plain rfl fun ρ Os wo hs' hb hc' => ?_
      have h4 : ρ (.tmp 4) = .pointer (some ⟨b4, 0, none⟩) := hs'.old' 4 (by kernel_rfl)
      have c0 : wo.cell? ⟨b4, 0, none⟩ = some (.pointer (some ⟨bb, off, none⟩)) := (hb.undrew.cell HLB.out.2.1 HF4.out).trans HCL2.out.2.1
      go_simp
      exact Ord.post_val rfl rfl
    · refine Ord.owes_plain rfl fun ρ Os wo hs' hb hc' => ?_
      have h23 : ρ (.tmp 23) = .pointer (some ⟨bb, off, none⟩) := hs'.val' 23 1 (by kernel_rfl) rfl
      go_simp
      exact Ord.post_val rfl rfl
    · refine Ord.owes_plain rfl fun ρ Os wo hs' hb hc' => ?_
      have h24 : ρ (.tmp 24) = .pointer (some ⟨bb, off, none⟩) := hs'.val' 24 2 (by kernel_rfl) rfl
      go_simp
      exact Ord.post_val rfl rfl
    · refine Ord.owes_plain rfl fun ρ Os wo hs' hb hc' => ?_
      have h25 : ρ (.tmp 25) = .pointer (some ⟨bb, off + 2, none⟩) := hs'.val' 25 3 (by kernel_rfl) rfl
      have c0 : wo.cell? ⟨bb, off + 2, none⟩ = some (.slice al L.length cl) := (cell_blk ((hs'.early' 13 (by kernel_rfl) _ rfl).trans HBX.out) (off + 2)).trans HCV.out
      go_simp
      exact Ord.post_val rfl rfl
    · refine Ord.owes_plain rfl fun ρ Os wo hs' hb hc' => ?_
      have h5 : ρ (.tmp 5) = .pointer (some ⟨b5, 0, none⟩) := hs'.old' 5 (by kernel_rfl)
      go_simp
      exact Ord.post_val rfl rfl
    · refine Ord.owes_plain rfl fun ρ Os wo hs' hb hc' => ?_
      have h27 : ρ (.tmp 27) = .pointer (some ⟨b5, 0, none⟩) := hs'.val' 27 5 (by kernel_rfl) rfl
      have c0 : wo.cell? ⟨b5, 0, none⟩ = some (.string g) := (hb.undrew.cell HLB.out.2.2.1 HF5.out).trans HCL2.out.2.2
      go_simp
      exact Ord.post_val rfl rfl
    · refine Ord.owes_plain rfl fun ρ Os wo hs' hb hc' => ?_
      have h8 : ρ (.tmp 8) = .int .i64 (n : Int) := hs'.old' 8 (by kernel_rfl)
      exact Any.ok_move (Ord.post_val rfl h8)
    · refine Ord.owes_plain rfl fun ρ Os wo hs' hb hc' => ?_
      have h28 : ρ (.tmp 28) = .string g := hs'.val' 28 6 (by kernel_rfl) rfl
      have h29 : ρ (.tmp 29) = .int .i64 (n : Int) := hs'.val' 29 7 (by kernel_rfl) rfl
      go_simp
      exact Ord.post_val rfl rfl
    · refine Ord.owes_plain rfl fun ρ Os wo hs' hb hc' => ?_
      have h30 : ρ (.tmp 30) = .agg #[.string g, .int .i64 (n : Int)] := hs'.val' 30 8 (by kernel_rfl) rfl
      go_simp
      exact Ord.post_one rfl
    · refine Ord.owes_plain rfl fun ρ Os wo hs' hb hc' => ?_
      have h26 : ρ (.tmp 26) = .slice al L.length cl := hs'.val' 26 4 (by kernel_rfl) rfl
      exact Ord.ok_grown Tryd.underlying23 HI.out.1 HI.out.2.1 HI.out.2.2.1 HI.out.2.2.2 rfl (by decide) h26 (hs'.new' 31 9 (by kernel_rfl)) HROW.out hs'.here rfl (by simp [Value.oneCell']) HL7.out.1 HL7.out.2 rfl
    · refine Ord.owes_plain rfl fun ρ Os wo hs' hb hc' => ?_
      have h22 : ρ (.tmp 22) = .pointer (some ⟨bb, off, none⟩) := hs'.val' 22 0 (by kernel_rfl) rfl
      go_simp
      exact Ord.post_val rfl rfl
    · refine Ord.owes_plain rfl fun ρ Os wo hs' hb hc' => ?_
      have h33 : ρ (.tmp 33) = .pointer (some ⟨bb, off, none⟩) := hs'.val' 33 11 (by kernel_rfl) rfl
      go_simp
      exact Ord.post_val rfl rfl
    · refine Ord.owes_plain rfl fun ρ Os wo hs' hb hc' => ?_
      have h34 : ρ (.tmp 34) = .pointer (some ⟨bb, off + 2, none⟩) := hs'.val' 34 12 (by kernel_rfl) rfl
      exact Ord.ok_kept h34 (hs'.new' 32 10 (by kernel_rfl)) HBX.out (hs'.here _ rfl) (HOFF.out) (by decide) (fun _ => rfl) (fun _ => by kernel_rfl) rfl
  intro vals Os ρs w' hk hkn hln hap hbd
  obtain ⟨v', r1, r2, r3⟩ := hkn 13 (by kernel_rfl)
  have hbd := hbd 13 (by kernel_rfl)
  have HN : Hid (∀ b, v'.ownBlock = some b → (Value.slice al L.length cl).ownBlock = some b ∨ w7.heap.size ≤ b) := Lib.hid (fun b hb => (hbd b ((r3 b).2 (.inr hb))).elim .inr (fun h => h.elim (fun e => (by
    subst e
    obtain ⟨c, hc⟩ := own_block_cells r1 hb
    rw [r2] at hc
    simp only [Option.some.injEq, Obj.cells.injEq] at hc
    exact absurd hc.2.1 (by decide))) .inl))
  have HR := Lib.hid (And.intro r1 r2)
  have HK := Lib.hid hk
  clear hkn hln hap hbd hk r1 r2 r3
  simp only [Any.putAll]
  go_frame
  go_wp2_with fail
  go_ret
  exact ⟨rfl, (HEND.out _ _ HR.out.1 HR.out.2 HN.out HK.out).2⟩
end Go.Proofs.YtgnfdplphpejaaaDoor.Sc
