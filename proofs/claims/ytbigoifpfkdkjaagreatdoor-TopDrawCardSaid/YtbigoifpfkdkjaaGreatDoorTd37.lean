/- add: by the program. -/
import Derived.Test.YtbigoifpfkdkjaaGreatDoorTd35
import Derived.Test.YtbigoifpfkdkjaaGreatDoorTd03
import Derived.Test.YtbigoifpfkdkjaaGreatDoorTd10
import Derived.Test.YtbigoifpfkdkjaaGreatDoorTd36
import Derived.Test.YtbigoifpfkdkjaaGreatDoorTd19
namespace Go.Proofs.YtbigoifpfkdkjaaGreatDoor.Sc
open Go Go.RowKit Go.ChangeShapes Go.WideShapes Go.ChangeAt
set_option maxRecDepth 100000

/-- A box somewhere in memory. -/
def BoxC (w : World) (bb off : Nat) (m : ByteArray) (k : Int) (v : Value) : Prop := w.cell? ⟨bb, off, none⟩ = some (.string m) ∧ w.cell? ⟨bb, off + 1, none⟩ = some (.int .i64 k) ∧ w.cell? ⟨bb, off + 2, none⟩ = some v
/-- What fill's closure holds. -/
def ClosC (w : World) (b3 b4 b5 bt bb off : Nat) (g : ByteArray) : Prop := w.cell? ⟨b3, 0, none⟩ = some (.pointer (some ⟨bt, 0, none⟩)) ∧ w.cell? ⟨b4, 0, none⟩ = some (.pointer (some ⟨bb, off, none⟩)) ∧ w.cell? ⟨b5, 0, none⟩ = some (.string g)
set_option maxHeartbeats 4000000 in
theorem mayF_any (t : List Gd) (m g : ByteArray) (k n : Int) (L : List Lt) (bt bm b3 b4 b5 bb off : Nat) (vl : Value) (w : World) (hap : ApT w) (hs : Sl w 2 vl (L.map Lt.row)) (hl : L.length ≤ 3000) (htab : Tab w bt bm t) (hn : (codes t).Nodup) (hok : ∀ g ∈ t, gdOk g = true)
    (hcl : ClosC w b3 b4 b5 bt bb off g) (hbx : BoxC w bb off m k vl) (hlt : b3 < w.heap.size ∧ b4 < w.heap.size ∧ b5 < w.heap.size ∧ bb < w.heap.size) :
    Calls Tryz.prog 173 #[.int .i64 n, .pointer (some ⟨b3, 0, none⟩), .pointer (some ⟨b4, 0, none⟩), .pointer (some ⟨b5, 0, none⟩)] w (RetB w (goP t k (L ++ [⟨g, n⟩]))) := by
  obtain ⟨al, cl, rfl⟩ : ∃ a c, vl = .slice a L.length c := by simpa using hs.shape
  obtain ⟨r, hr⟩ : ∃ r, r = goP t k (L ++ [⟨g, n⟩]) := ⟨_, rfl⟩
  have HQ := Lib.hid hr.symm
  have HFT : Hid (∀ W, Below w.heap.size w W → Calls Tryz.prog 174 #[.pointer (some ⟨bt, 0, none⟩), .agg #[.string m, .int .i64 k, .slice al L.length cl], .agg #[.string g, .int .i64 n]] W (RetB W r)) := Lib.hid (fun W hW => by
    rw [hr]
    exact fits_any t m k L ⟨g, n⟩ bt bm _ W (hap.below hW) (hs.below hW (Nat.le_refl _)) hl (htab.below hW) hn hok)
  have HC : Hid (∀ W, Below w.heap.size w W → W.cell? ⟨b3, 0, none⟩ = some (.pointer (some ⟨bt, 0, none⟩)) ∧ W.cell? ⟨b4, 0, none⟩ = some (.pointer (some ⟨bb, off, none⟩)) ∧ W.cell? ⟨b5, 0, none⟩ = some (.string g) ∧
      W.cell? ⟨bb, off, none⟩ = some (.string m) ∧ W.cell? ⟨bb, off + 1, none⟩ = some (.int .i64 k) ∧ W.cell? ⟨bb, off + 2, none⟩ = some (.slice al L.length cl)) := Lib.hid (fun W hW =>
    ⟨(hW.cell (p := ⟨b3, 0, none⟩) hlt.1).trans hcl.1, (hW.cell (p := ⟨b4, 0, none⟩) hlt.2.1).trans hcl.2.1, (hW.cell (p := ⟨b5, 0, none⟩) hlt.2.2.1).trans hcl.2.2,
     (hW.cell (p := ⟨bb, off, none⟩) hlt.2.2.2).trans hbx.1, (hW.cell (p := ⟨bb, off + 1, none⟩) hlt.2.2.2).trans hbx.2.1, (hW.cell (p := ⟨bb, off + 2, none⟩) hlt.2.2.2).trans hbx.2.2⟩)
  clear hap hs hl htab hn hok hcl hbx hlt hr
  go_enter Tryz.func173, Tryz.ntmps173
  go_wp2_with fail
  refine Any.region_lit (fun
    | 0 => Any.val (.pointer (some ⟨bt, 0, none⟩))
    | 1 => Any.val (.pointer (some ⟨bb, off, none⟩))
    | 2 => Any.val (.pointer (some ⟨bb, off, none⟩))
    | 3 => Any.val (.agg #[.string m, .int .i64 k, .slice al L.length cl])
    | 4 => Any.val (.pointer (some ⟨b5, 0, none⟩))
    | 5 => Any.val (.string g)
    | 6 => Any.val (.int .i64 n)
    | 7 => Any.val (.agg #[.string g, .int .i64 n])
    | 8 => Any.val (.bool r)
    | 9 => Any.val (.bool r)
    | _ => Any.idle) (by kernel_rfl) (by kernel_rfl) (by kernel_rfl) ?_ ?_ ?_
  · intro i _
    match i with
    | 0 => exact Any.lasts_val _
    | 1 => exact Any.lasts_val _
    | 2 => exact Any.lasts_val _
    | 3 => exact Any.lasts_val _
    | 4 => exact Any.lasts_val _
    | 5 => exact Any.lasts_val _
    | 6 => exact Any.lasts_val _
    | 7 => exact Any.lasts_val _
    | 8 => exact Any.lasts_val _
    | 9 => exact Any.lasts_val _
    | n + 10 => exact Any.lasts_idle
  · refine ⟨?_, ?_, ?_, ?_, ?_, ?_, ?_, ?_, ?_, ?_, trivial⟩
    · refine Any.owes_plain rfl fun ρ wo hs' hb hc' => ?_
      have h1 : ρ (.tmp 1) = .pointer (some ⟨b3, 0, none⟩) := hs'.old' 1 (by kernel_rfl)
      have c0 := (HC.out wo (below_undrew hb)).1
      go_simp
      exact Any.post_val hb rfl rfl
    · refine Any.owes_plain rfl fun ρ wo hs' hb hc' => ?_
      have h2 : ρ (.tmp 2) = .pointer (some ⟨b4, 0, none⟩) := hs'.old' 2 (by kernel_rfl)
      have c0 := (HC.out wo (below_undrew hb)).2.1
      go_simp
      exact Any.post_val hb rfl rfl
    · refine Any.owes_plain rfl fun ρ wo hs' hb hc' => ?_
      have h7 : ρ (.tmp 7) = .pointer (some ⟨bb, off, none⟩) := hs'.new' 7 1 (by kernel_rfl)
      go_simp
      exact Any.post_val hb rfl rfl
    · refine Any.owes_plain rfl fun ρ wo hs' hb hc' => ?_
      have h8 : ρ (.tmp 8) = .pointer (some ⟨bb, off, none⟩) := hs'.new' 8 2 (by kernel_rfl)
      obtain ⟨c0, c1, c2⟩ := (HC.out wo (below_undrew hb)).2.2.2
      go_simp
      exact Any.post_val hb rfl rfl
    · refine Any.owes_plain rfl fun ρ wo hs' hb hc' => ?_
      have h3 : ρ (.tmp 3) = .pointer (some ⟨b5, 0, none⟩) := hs'.old' 3 (by kernel_rfl)
      go_simp
      exact Any.post_val hb rfl rfl
    · refine Any.owes_plain rfl fun ρ wo hs' hb hc' => ?_
      have h10 : ρ (.tmp 10) = .pointer (some ⟨b5, 0, none⟩) := hs'.new' 10 4 (by kernel_rfl)
      have c0 := (HC.out wo (below_undrew hb)).2.2.1
      go_simp
      exact Any.post_val hb rfl rfl
    · refine Any.owes_plain rfl fun ρ wo hs' hb hc' => ?_
      have h0 : ρ (.tmp 0) = .int .i64 n := hs'.old' 0 (by kernel_rfl)
      exact Any.ok_move (Any.post_val hb rfl h0)
    · refine Any.owes_plain rfl fun ρ wo hs' hb hc' => ?_
      have h11 : ρ (.tmp 11) = .string g := hs'.new' 11 5 (by kernel_rfl)
      have h12 : ρ (.tmp 12) = .int .i64 n := hs'.new' 12 6 (by kernel_rfl)
      go_simp
      exact Any.post_val hb rfl rfl
    · refine Any.owes_plain rfl fun ρ wo hs' hb hc' => ?_
      have h6 : ρ (.tmp 6) = .pointer (some ⟨bt, 0, none⟩) := hs'.new' 6 0 (by kernel_rfl)
      have h9 : ρ (.tmp 9) = .agg #[.string m, .int .i64 k, .slice al L.length cl] := hs'.new' 9 3 (by kernel_rfl)
      have h13 : ρ (.tmp 13) = .agg #[.string g, .int .i64 n] := hs'.new' 13 7 (by kernel_rfl)
      have hf := hs'.func 174
      go_simp
      exact (HFT.out wo (below_undrew hb)).mono fun e w' ⟨he, hb'⟩ => ⟨_, he, Any.post_vals hb rfl rfl hb'⟩
    · refine Any.owes_plain rfl fun ρ wo hs' hb hc' => ?_
      have h14 : ρ (.tmp 14) = .bool r := hs'.new' 14 8 (by kernel_rfl)
      exact Any.ok_assign (Any.post_val hb rfl h14)
  intro vals w5 hb hk ha
  have h9 : vals 9 = .bool r := hk 9 (by kernel_rfl)
  have HBZ := Lib.hid hb
  clear hk ha hb
  simp only [Any.putAll]
  go_frame
  simp only [Nat.zero_add, Nat.reduceAdd]
  rw [h9]
  clear h9
  go_wp2_with fail
  go_ret
  exact retB HQ.out.symm HBZ.out
set_option maxHeartbeats 4000000 in
/-- The greatest number that may be. -/
theorem halves_any (may : Nat → Bool) (hmono : ∀ i j, may j = true → 1 ≤ i → i ≤ j → may i = true) (c : Nat) (hc : c ≤ 1099511627776) (b3 b4 b5 : Nat) (w : World)
    (hcall : ∀ W (n : Nat), Below w.heap.size w W → 1 ≤ n → Calls Tryz.prog 173 #[.int .i64 n, .pointer (some ⟨b3, 0, none⟩), .pointer (some ⟨b4, 0, none⟩), .pointer (some ⟨b5, 0, none⟩)] W (RetB W (may n))) :
    Calls Tryz.prog 175 #[.int .i64 c, .func (.func 173) #[] #[.pointer (some ⟨b3, 0, none⟩), .pointer (some ⟨b4, 0, none⟩), .pointer (some ⟨b5, 0, none⟩)]] w (Ret w (.int .i64 (mostP may c))) := by
  have HCL := Lib.hid hcall
  have HMO := Lib.hid hmono
  clear hcall hmono
  go_enter Tryz.func175, Tryz.ntmps175
  go_wp2_with fail
  go_loopw [0, 5, 6] (fun hi lo _ wr => ∃ a b : Nat, a ≤ b ∧ b ≤ c ∧ lo = .int .i64 a ∧ hi = .int .i64 b ∧ (a = 0 ∨ may a = true) ∧ (∀ k, b < k → k ≤ c → may k = false) ∧ Below w.heap.size w wr) (fun hi lo _ _ => ((intOf hi) - (intOf lo)).toNat)
  case atStart => exact ⟨0, c, Nat.zero_le _, Nat.le_refl _, rfl, rfl, .inl rfl, fun k h1 h2 => by omega, Below.refl _ _⟩
  case round =>
    obtain ⟨a, b, hab, hbc, rfl, rfl, h1, h2, hbel⟩ := hrel
    have HBEL := Lib.hid hbel
    have H1 := Lib.hid h1
    have H2 := Lib.hid h2
    clear hbel h1 h2
    by_cases hlt : a < b
    · obtain ⟨n, hn⟩ : ∃ n : Nat, n = a + (b - a + 1) / 2 := ⟨_, rfl⟩
      have e1 : Int.tdiv ((b : Int) - (a : Int) + 1) 2 = ((b : Int) - a + 1) / 2 := Int.tdiv_eq_ediv_of_nonneg (by omega)
      have e2 : (a : Int) + ((b : Int) - a + 1) / 2 = (n : Int) := by omega
      have t1 : decide ((a : Int) < (b : Int)) = true := decide_eq_true (by omega)
      have HN : Hid (a < n ∧ n ≤ b) := Lib.hid (by omega)
      have HCN := Lib.hid (fun W hW => HCL.out W n hW (by omega))
      have HUP : Hid (may n = false → ∀ k, n - 1 < k → k ≤ c → may k = false) := Lib.hid (fun hm k hk1 hk2 => by
        cases hk : may k with
        | false => rfl
        | true => rw [HMO.out n k hk (by omega) (by omega)] at hm; cases hm)
      clear hn
      generalize hmn : may n = r at *
      cases r
      · go_wp2_with (first
          | ((with_reducible refine (HCN.out _ HBEL.out).mono ?_); rintro e w2 ⟨rfl, hb2⟩; have HB2 := Lib.hid (HBEL.out.trans (hb2.mono HBEL.out.size)); clear hb2)
          | fail)
        go_roundw
        case rel =>
          have h3 := HN.out
          exact ⟨a, n - 1, by omega, by omega, rfl, by go_num, H1.out, HUP.out (by first | rfl | trivial), HB2.out⟩
        case measure =>
          have h3 := HN.out
          (simp [intOf]) <;> omega
      · have HM := Lib.hid hmn
        go_wp2_with (first
          | ((with_reducible refine (HCN.out _ HBEL.out).mono ?_); rintro e w2 ⟨rfl, hb2⟩; have HB2 := Lib.hid (HBEL.out.trans (hb2.mono HBEL.out.size)); clear hb2)
          | fail)
        go_roundw
        case rel =>
          have h3 := HN.out
          exact ⟨n, b, by omega, by omega, by go_num, rfl, .inr HM.out, H2.out, HB2.out⟩
        case measure =>
          have h3 := HN.out
          (simp [intOf]) <;> omega
    · have t1 : decide ((a : Int) < (b : Int)) = false := decide_eq_false (by omega)
      have HQ : Hid (mostP may c = a) := Lib.hid (mostP_eq (by omega) H1.out fun k hk1 hk2 => H2.out k (by omega) hk2)
      go_wp2_with fail
      go_ret
      exact ⟨by rw [HQ.out]; rfl, HBEL.out⟩
end Go.Proofs.YtbigoifpfkdkjaaGreatDoor.Sc
namespace Go.Proofs.YtbigoifpfkdkjaaGreatDoor.Sc
open Go Go.RowKit Go.ChangeShapes Go.WideShapes Go.ChangeAt
set_option maxRecDepth 100000

theorem own_block_cells {w : World} {B n sz : Nat} {e : TypeId} {v : Value} {xs : List Value} {b : Nat} (h : w.ownsRow B e sz v n xs) (hb : v.ownBlock = some b) : ∃ c, w.heap[b]? = some (.cells c e (0, 0)) := by
  rcases h.2 with ⟨rfl, _⟩ | ⟨g, cap, cur, rfl, _, hh, _⟩
  · cases hb
  · obtain rfl : g = b := Option.some.inj hb
    exact ⟨cur, hh⟩
/-- Behind fill. -/
def FilP (w : World) (bb off : Nat) (cs : Array Value) (vl : Value) (L : List Lt) (g : ByteArray) (n : Nat) (e : Ending) (w' : World) : Prop :=
  e = .returned (.int .i64 n) ∧ ((n = 0 ∧ Below w.heap.size w w') ∨ (0 < n ∧ ∃ v', w'.ownsRow 0 107 2 v' (L.length + 1) (ltCells (L ++ [⟨g, n⟩])) ∧ w'.heap[bb]? = some (.cells (cs.setIfInBounds (off + 2) v') 96 (0, 0)) ∧
    (∀ b, v'.ownBlock = some b → vl.ownBlock = some b ∨ w.heap.size ≤ b) ∧ Keep (fun k => k = bb ∨ vl.ownBlock = some k) w w'))
set_option maxHeartbeats 8000000 in
theorem fill_any (t : List Gd) (m g : ByteArray) (k c : Int) (L : List Lt) (bt bm bb off : Nat) (cs : Array Value) (vl : Value) (w : World) (hap : ApT w) (hs : w.ownsRow 0 107 2 vl L.length (ltCells L)) (hl : L.length ≤ 2000) (htab : Tab w bt bm t) (hn : (codes t).Nodup) (hok : ∀ g ∈ t, gdOk g = true)
    (hbx : w.heap[bb]? = some (.cells cs 96 (0, 0))) (hc0 : cs[off]? = some (.string m)) (hc1 : cs[off + 1]? = some (.int .i64 k)) (hc2 : cs[off + 2]? = some vl) (hcc : c ≤ 1099511627776) :
    Calls Tryz.prog 148 #[.pointer (some ⟨bt, 0, none⟩), .pointer (some ⟨bb, off, none⟩), .agg #[.string g, .int .i64 c]] w (FilP w bb off cs vl L g (fillN t k L g c)) := by
  have hsl := own_lots hs rfl
  obtain ⟨al, cl, rfl⟩ : ∃ a c, vl = .slice a L.length c := by simpa using hsl.shape
  have hltb := lt_blk hbx
  obtain ⟨w5, hw5⟩ : ∃ w5, w5 = ((w.alloc (.cells #[.pointer (some ⟨bt, 0, none⟩)] 85)).alloc (.cells #[.pointer (some ⟨bb, off, none⟩)] 228)).alloc (.cells #[.string g, .int .i64 c] 107) := ⟨_, rfl⟩
  obtain ⟨b3, hb3⟩ : ∃ b, b = w.heap.size := ⟨_, rfl⟩
  obtain ⟨b4, hb4⟩ : ∃ b, b = w.heap.size + 1 := ⟨_, rfl⟩
  obtain ⟨b5, hb5⟩ : ∃ b, b = w.heap.size + 1 + 1 := ⟨_, rfl⟩
  have h3 : w5.heap[b3]? = some (.cells #[.pointer (some ⟨bt, 0, none⟩)] 85 (0, 0)) := by
    rw [hw5, hb3]
    exact blk (one_below _ _) (by simp; omega) (blk (one_below _ _) (by simp) (heap_alloc_new w _))
  have h4 : w5.heap[b4]? = some (.cells #[.pointer (some ⟨bb, off, none⟩)] 228 (0, 0)) := by
    rw [hw5, hb4]
    refine blk (one_below _ _) (by simp) ?_
    have := heap_alloc_new (w.alloc (.cells #[.pointer (some ⟨bt, 0, none⟩)] 85)) (.cells #[.pointer (some ⟨bb, off, none⟩)] 228)
    simpa using this
  have h5 : w5.heap[b5]? = some (.cells #[.string g, .int .i64 c] 107 (0, 0)) := by
    rw [hw5, hb5]
    have := heap_alloc_new ((w.alloc (.cells #[.pointer (some ⟨bt, 0, none⟩)] 85)).alloc (.cells #[.pointer (some ⟨bb, off, none⟩)] 228)) (.cells #[.string g, .int .i64 c] 107)
    simpa using this
  have hb05 : Below w.heap.size w w5 := by
    rw [hw5]
    exact (one_below w _).trans (((one_below _ _).mono (by simp)).trans ((one_below _ _).mono (by simp; omega)))
  have hneb : ∀ j, (Value.slice al L.length cl).ownBlock = some j → j ≠ bb := fun j hj e => by
    subst e
    obtain ⟨c', hc'⟩ := own_block_cells hs hj
    rw [hbx] at hc'
    simp only [Option.some.injEq, Obj.cells.injEq] at hc'
    exact absurd hc'.2.1 (by decide)
  have hown : ∀ j, (Value.slice al L.length cl).ownBlock = some j → j < w.heap.size := fun j hj => by
    obtain ⟨c', hc'⟩ := own_block_cells hs hj
    exact lt_blk hc'
  have HLB : Hid (b3 < w5.heap.size ∧ b4 < w5.heap.size ∧ b5 < w5.heap.size ∧ bb < w5.heap.size) := Lib.hid ⟨lt_blk h3, lt_blk h4, lt_blk h5, Nat.lt_of_lt_of_le hltb hb05.size⟩
  have hcl5 : ∀ W, Below w5.heap.size w5 W → ClosC W b3 b4 b5 bt bb off g := fun W hW => ⟨cell_blk (blk hW (lt_blk h3) h3) 0, cell_blk (blk hW (lt_blk h4) h4) 0, cell_blk (blk hW (lt_blk h5) h5) 0⟩
  have hbx5 : ∀ W, Below w5.heap.size w5 W → W.heap[bb]? = some (.cells cs 96 (0, 0)) := fun W hW => blk (hb05.trans (hW.mono hb05.size)) hltb hbx
  have HMAY : Hid (∀ W (n : Nat), Below w5.heap.size w5 W → 1 ≤ n → Calls Tryz.prog 173 #[.int .i64 n, .pointer (some ⟨b3, 0, none⟩), .pointer (some ⟨b4, 0, none⟩), .pointer (some ⟨b5, 0, none⟩)] W (RetB W (mayN t k L g n))) := Lib.hid (fun W n hW _ => by
    have hB := hb05.trans (hW.mono hb05.size)
    have hq := hbx5 W hW
    refine mayF_any t m g k n L bt bm b3 b4 b5 bb off _ W (hap.below hB) (hsl.below hB (Nat.le_refl _)) (by omega) (htab.below hB) hn hok (hcl5 W hW) ⟨(cell_blk hq off).trans hc0, (cell_blk hq (off + 1)).trans hc1, (cell_blk hq (off + 2)).trans hc2⟩ ?_
    have h := HLB.out
    have := hW.size
    omega)
  have HM1 : Hid (∀ W, Below w5.heap.size w5 W → Calls Tryz.prog 173 #[.int .i64 1, .pointer (some ⟨b3, 0, none⟩), .pointer (some ⟨b4, 0, none⟩), .pointer (some ⟨b5, 0, none⟩)] W (RetB W (mayN t k L g 1))) := Lib.hid (fun W hW => HMAY.out W 1 hW (Nat.le_refl _))
  have HB05 := Lib.hid hb05
  have HX5 := Lib.hid h5
  have HN0 := Lib.hid (fun h : fillN t k L g c = 0 => fun W hW => (⟨by rw [h]; rfl, .inl ⟨h, hW⟩⟩ : FilP w bb off cs (.slice al L.length cl) L g (fillN t k L g c) (.returned (.int .i64 0)) W))
  have y1 := cell_blk HX5.out 1
  by_cases hc1' : c < 1
  · have t1 : decide (c < 1) = true := decide_eq_true hc1'
    have HZ := Lib.hid (HN0.out (fillN_zero hc1'))
    clear hs hl htab hn hok hbx hc0 hc1 hc2 hcc hsl hltb h3 h4 h5 hneb hown hcl5 hbx5 HMAY HM1 HLB hap HN0 hc1' hb05
    go_enter Tryz.func148, Tryz.ntmps148
    go_wp2_with fail
    rw [← hb5, ← hb4, ← hb3, ← hw5]
    go_wp2_with fail
    go_ret
    exact HZ.out _ HB05.out
  have t1 : decide (c < 1) = false := decide_eq_false hc1'
  obtain ⟨r1, hr1⟩ : ∃ r, r = mayN t k L g 1 := ⟨_, rfl⟩
  rw [← hr1] at HM1
  cases r1
  · have HZ := Lib.hid (HN0.out (fillN_none hok hr1.symm))
    clear hs hl htab hn hok hbx hc0 hc1 hc2 hcc hsl hltb h3 h4 h5 hneb hown hcl5 hbx5 HMAY HLB hap HN0 hc1' hb05 hr1
    go_enter Tryz.func148, Tryz.ntmps148
    go_wp2_with fail
    rw [← hb5, ← hb4, ← hb3, ← hw5]
    go_wp2_with (first
      | ((with_reducible refine (HM1.out _ (Below.refl _ _)).mono ?_); rintro e w6 ⟨rfl, hb6⟩; have HB6 := Lib.hid (HB05.out.trans (hb6.mono HB05.out.size)); clear hb6)
      | fail)
    go_ret
    exact HZ.out _ HB6.out
  have hn1 := fillN_some (c := c) (by omega) hr1.symm
  have hnc := fillN_le t k L g c
  obtain ⟨cn, rfl⟩ : ∃ cn : Nat, c = (cn : Int) := ⟨c.toNat, by omega⟩
  have HH := Lib.hid (fun W (hW : Below w5.heap.size w5 W) => (halves_any (mayN t k L g) (fun i j h1 h2 h3 => mayN_less hok h1 h2 h3) cn (by omega) b3 b4 b5 W (fun V n hV h1 => HMAY.out V n (hW.trans (hV.mono hW.size)) h1)).mono fun e w' h => (show Ret W (.int .i64 (fillN t k L g (cn : Int))) e w' from h))
  have hn2 : fillN t k L g (cn : Int) ≤ 1099511627776 := by omega
  have HFP := Lib.hid (fun (n : Nat) (hnn : 1 ≤ n) (W : World) (hW : Below w.heap.size w W) => fun (v' : Value) (w' : World) (q1 : w'.ownsRow 0 107 2 v' (L.length + 1) (ltCells L ++ [.string g, .int .i64 n])) (q2 : w'.heap[bb]? = some (.cells (cs.setIfInBounds (off + 2) v') 96 (0, 0)))
      (q3 : ∀ b, v'.ownBlock = some b → (Value.slice al L.length cl).ownBlock = some b ∨ W.heap.size ≤ b) (q4 : Keep (fun k => k = bb ∨ (Value.slice al L.length cl).ownBlock = some k) W w') =>
    (⟨rfl, .inr ⟨hnn, v', by rw [ltCells_append]; exact q1, q2, fun b hb => (q3 b hb).imp id (Nat.le_trans hW.size), (Keep.of_below hW).trans q4 (fun i _ h => h)⟩⟩ : FilP w bb off cs (.slice al L.length cl) L g n (.returned (.int .i64 n)) w'))
  generalize fillN t k L g (cn : Int) = n at *
  have HS := Lib.hid hs
  have HBX0 := Lib.hid hbx
  have HCL5 := Lib.hid hcl5
  have HL7 : Hid (L.length + 1 ≤ maxLen ∧ (L.length + 1) * 24 ≤ 140737488355328) := Lib.hid (by simp only [maxLen]; omega)
  have HNE := Lib.hid hneb
  have HOFF : Hid (off + 2 < cs.size) := Lib.hid (by
    have := (Array.getElem?_eq_some_iff.1 hc2).1
    exact this)
  have HCV := Lib.hid hc2
  have HNF : Hid (∀ b, w.heap.size ≤ b → ¬ (b = bb ∨ (Value.slice al L.length cl).ownBlock = some b)) := Lib.hid (fun b hb h => h.elim (fun e => by subst e; omega) (fun e => by have := hown b e; omega))
  have HB45 : Hid (w.heap.size ≤ b4 ∧ w.heap.size ≤ b5) := Lib.hid (by omega)
  obtain ⟨i0, hi, hz, hsz, hby⟩ := info_parts infoLt
  have HI := Lib.hid (And.intro hi (And.intro hz (And.intro hsz hby)))
  clear hs hl htab hn hok hbx hc0 hc1 hc2 hcc hsl hltb h3 h4 h5 hneb hown hcl5 hbx5 HMAY hap HN0 hc1' hb05 hr1 hi hz hsz hby hnc
  go_enter Tryz.func148, Tryz.ntmps148
  go_wp2_with fail
  rw [← hb5, ← hb4, ← hb3, ← hw5]
  clear hb5 hb4 hb3 hw5
  go_wp2_with (first
    | ((with_reducible refine (HM1.out _ (Below.refl _ _)).mono ?_); rintro e w6 ⟨rfl, hb6⟩; have HB6 := Lib.hid hb6; have HX5 := Lib.hid (blk hb6 (lt_blk HX5.out) HX5.out); clear y1; have y1 := cell_blk HX5.out 1; clear hb6)
    | ((with_reducible refine (HH.out _ HB6.out).mono ?_); rintro e w7 ⟨rfl, hb7⟩; have HB7 := Lib.hid (HB6.out.trans (hb7.mono HB6.out.size)); clear hb7)
    | fail)
  have HBW := Lib.hid (HB05.out.trans (HB7.out.mono HB05.out.size))
  have HROW := Lib.hid (ownsRow_below HS.out HBW.out)
  have HBX := Lib.hid (blk HBW.out (lt_blk HBX0.out) HBX0.out)
  have HCL2 := Lib.hid (HCL5.out _ HB7.out)
  have HLB : Hid (b3 < w7.heap.size ∧ b4 < w7.heap.size ∧ b5 < w7.heap.size ∧ bb < w7.heap.size) := Lib.hid (by have h := HLB.out; have := HB7.out.size; omega)
  have HF4 := Lib.hid (HNF.out b4 HB45.out.1)
  have HF5 := Lib.hid (HNF.out b5 HB45.out.2)
  have HEND := Lib.hid (HFP.out n hn1 w7 HBW.out)
  clear y1
  refine Ord.region_lit (fun
    | 0 => Ord.val (.pointer (some ⟨bb, off, none⟩))
    | 1 => Ord.val (.pointer (some ⟨bb, off, none⟩))
    | 2 => Ord.val (.pointer (some ⟨bb, off, none⟩))
    | 3 => Ord.val (.pointer (some ⟨bb, off + 2, none⟩))
    | 4 => Ord.val (.slice al L.length cl)
    | 5 => Ord.val (.pointer (some ⟨b5, 0, none⟩))
    | 6 => Ord.val (.string g)
    | 7 => Ord.val (.int .i64 (n : Int))
    | 8 => Ord.val (.agg #[.string g, .int .i64 (n : Int)])
    | 9 => Ord.one 107 #[.string g, .int .i64 (n : Int)]
    | 10 => Ord.grown 107 2 (L.length + 1) (ltCells L ++ [.string g, .int .i64 (n : Int)]) 9 (Value.slice al L.length cl)
    | 11 => Ord.val (.pointer (some ⟨bb, off, none⟩))
    | 12 => Ord.val (.pointer (some ⟨bb, off + 2, none⟩))
    | 13 => Ord.kept 107 2 (L.length + 1) (ltCells L ++ [.string g, .int .i64 (n : Int)]) (bb) (fun v => cs.setIfInBounds (off + 2) v) 96 10
    | _ => Ord.idle) (fun k => k = bb ∨ (Value.slice al L.length cl).ownBlock = some k) (by kernel_rfl) (by kernel_rfl) (by kernel_rfl) ?_ ?_ ?_ ?_
  · intro i _
    match i with
    | 0 => exact Ord.lasts_val _
    | 1 => exact Ord.lasts_val _
    | 2 => exact Ord.lasts_val _
    | 3 => exact Ord.lasts_val _
    | 4 => exact Ord.lasts_val _
    | 5 => exact Ord.lasts_val _
    | 6 => exact Ord.lasts_val _
    | 7 => exact Ord.lasts_val _
    | 8 => exact Ord.lasts_val _
    | 9 => exact Ord.lasts_one _ _
    | 10 => exact Ord.lasts_grown _ _ _ _ _ _
    | 11 => exact Ord.lasts_val _
    | 12 => exact Ord.lasts_val _
    | 13 => exact Ord.lasts_kept _ _ _ _ _ _ _ _
    | n + 14 => exact Ord.lasts_idle
  · refine ⟨fun k b _ hh => ?_, fun k b _ hh => ?_, fun k k' b _ _ hne h1 h2 => ?_⟩
    · match k, hh with
      | 0, hh => exact hh.elim
      | 1, hh => exact hh.elim
      | 2, hh => exact hh.elim
      | 3, hh => exact hh.elim
      | 4, hh => exact hh.elim
      | 5, hh => exact hh.elim
      | 6, hh => exact hh.elim
      | 7, hh => exact hh.elim
      | 8, hh => exact hh.elim
      | 9, hh => exact hh.elim
      | 10, hh => exact .inr hh
      | 11, hh => exact hh.elim
      | 12, hh => exact hh.elim
      | 13, hh => exact .inl hh
      | m + 14, hh => exact hh.elim
    · match k, hh with
      | 0, hh => exact hh.elim
      | 1, hh => exact hh.elim
      | 2, hh => exact hh.elim
      | 3, hh => exact hh.elim
      | 4, hh => exact hh.elim
      | 5, hh => exact hh.elim
      | 6, hh => exact hh.elim
      | 7, hh => exact hh.elim
      | 8, hh => exact hh.elim
      | 9, hh => exact hh.elim
      | 10, hh => exact (HROW.out.lt b hh).2
      | 11, hh => exact hh.elim
      | 12, hh => exact hh.elim
      | 13, hh => exact hh ▸ lt_blk HBX.out
      | m + 14, hh => exact hh.elim
    · have a : (k = 10 ∧ (fun k => (Value.slice al L.length cl).ownBlock = some k) b) ∨ (k = 13 ∧ (fun k => k = bb) b) := by
        match k, h1 with
        | 0, hh => exact hh.elim
        | 1, hh => exact hh.elim
        | 2, hh => exact hh.elim
        | 3, hh => exact hh.elim
        | 4, hh => exact hh.elim
        | 5, hh => exact hh.elim
        | 6, hh => exact hh.elim
        | 7, hh => exact hh.elim
        | 8, hh => exact hh.elim
        | 9, hh => exact hh.elim
        | 10, hh => exact .inl ⟨rfl, hh⟩
        | 11, hh => exact hh.elim
        | 12, hh => exact hh.elim
        | 13, hh => exact Or.inr (⟨rfl, hh⟩)
        | m + 14, hh => exact hh.elim
      have a' : (k' = 10 ∧ (fun k => (Value.slice al L.length cl).ownBlock = some k) b) ∨ (k' = 13 ∧ (fun k => k = bb) b) := by
        match k', h2 with
        | 0, hh => exact hh.elim
        | 1, hh => exact hh.elim
        | 2, hh => exact hh.elim
        | 3, hh => exact hh.elim
        | 4, hh => exact hh.elim
        | 5, hh => exact hh.elim
        | 6, hh => exact hh.elim
        | 7, hh => exact hh.elim
        | 8, hh => exact hh.elim
        | 9, hh => exact hh.elim
        | 10, hh => exact .inl ⟨rfl, hh⟩
        | 11, hh => exact hh.elim
        | 12, hh => exact hh.elim
        | 13, hh => exact Or.inr (⟨rfl, hh⟩)
        | m + 14, hh => exact hh.elim
      rcases a with ⟨rfl, a⟩ | ⟨rfl, a⟩ <;> rcases a' with ⟨rfl, a'⟩ | ⟨rfl, a'⟩
      all_goals first | exact absurd rfl hne | (first | exact HNE.out _ a a' | exact HNE.out _ a' a)
  · refine ⟨?_, ?_, ?_, ?_, ?_, ?_, ?_, ?_, ?_, ?_, ?_, ?_, ?_, ?_, trivial⟩
    · refine Ord.owes_plain rfl fun ρ Os wo hs' hb hc' => ?_
      have h4 : ρ (.tmp 4) = .pointer (some ⟨b4, 0, none⟩) := hs'.old' 4 (by kernel_rfl)
      have c0 : wo.cell? ⟨b4, 0, none⟩ = some (.pointer (some ⟨bb, off, none⟩)) := (hb.undrew.cell HLB.out.2.1 HF4.out).trans HCL2.out.2.1
      go_simp
      exact Ord.post_val rfl rfl
    · refine Ord.owes_plain rfl fun ρ Os wo hs' hb hc' => ?_
      have h4 : ρ (.tmp 4) = .pointer (some ⟨b4, 0, none⟩) := hs'.old' 4 (by kernel_rfl)
      have c0 : wo.cell? ⟨b4, 0, none⟩ = some (.pointer (some ⟨bb, off, none⟩)) := (hb.undrew.cell HLB.out.2.1 HF4.out).trans HCL2.out.2.1
      go_simp
      exact Ord.post_val rfl rfl
    · refine Ord.owes_plain rfl fun ρ Os wo hs' hb hc' => ?_
      have h23 : ρ (.tmp 23) = .pointer (some ⟨bb, off, none⟩) := hs'.val' 23 1 (by kernel_rfl) rfl
      go_simp
      exact Ord.post_val rfl rfl
    · refine Ord.owes_plain rfl fun ρ Os wo hs' hb hc' => ?_
      have h24 : ρ (.tmp 24) = .pointer (some ⟨bb, off, none⟩) := hs'.val' 24 2 (by kernel_rfl) rfl
      go_simp
      exact Ord.post_val rfl rfl
    · refine Ord.owes_plain rfl fun ρ Os wo hs' hb hc' => ?_
      have h25 : ρ (.tmp 25) = .pointer (some ⟨bb, off + 2, none⟩) := hs'.val' 25 3 (by kernel_rfl) rfl
      have c0 : wo.cell? ⟨bb, off + 2, none⟩ = some (.slice al L.length cl) := (cell_blk ((hs'.early' 13 (by kernel_rfl) _ rfl).trans HBX.out) (off + 2)).trans HCV.out
      go_simp
      exact Ord.post_val rfl rfl
    · refine Ord.owes_plain rfl fun ρ Os wo hs' hb hc' => ?_
      have h5 : ρ (.tmp 5) = .pointer (some ⟨b5, 0, none⟩) := hs'.old' 5 (by kernel_rfl)
      go_simp
      exact Ord.post_val rfl rfl
    · refine Ord.owes_plain rfl fun ρ Os wo hs' hb hc' => ?_
      have h27 : ρ (.tmp 27) = .pointer (some ⟨b5, 0, none⟩) := hs'.val' 27 5 (by kernel_rfl) rfl
      have c0 : wo.cell? ⟨b5, 0, none⟩ = some (.string g) := (hb.undrew.cell HLB.out.2.2.1 HF5.out).trans HCL2.out.2.2
      go_simp
      exact Ord.post_val rfl rfl
    · refine Ord.owes_plain rfl fun ρ Os wo hs' hb hc' => ?_
      have h8 : ρ (.tmp 8) = .int .i64 (n : Int) := hs'.old' 8 (by kernel_rfl)
      exact Any.ok_move (Ord.post_val rfl h8)
    · refine Ord.owes_plain rfl fun ρ Os wo hs' hb hc' => ?_
      have h28 : ρ (.tmp 28) = .string g := hs'.val' 28 6 (by kernel_rfl) rfl
      have h29 : ρ (.tmp 29) = .int .i64 (n : Int) := hs'.val' 29 7 (by kernel_rfl) rfl
      go_simp
      exact Ord.post_val rfl rfl
    · refine Ord.owes_plain rfl fun ρ Os wo hs' hb hc' => ?_
      have h30 : ρ (.tmp 30) = .agg #[.string g, .int .i64 (n : Int)] := hs'.val' 30 8 (by kernel_rfl) rfl
      go_simp
      exact Ord.post_one rfl
    · refine Ord.owes_plain rfl fun ρ Os wo hs' hb hc' => ?_
      have h26 : ρ (.tmp 26) = .slice al L.length cl := hs'.val' 26 4 (by kernel_rfl) rfl
      exact Ord.ok_grown Tryz.underlying88 HI.out.1 HI.out.2.1 HI.out.2.2.1 HI.out.2.2.2 rfl (by decide) h26 (hs'.new' 31 9 (by kernel_rfl)) HROW.out hs'.here rfl (by simp [Value.oneCell']) HL7.out.1 HL7.out.2 rfl
    · refine Ord.owes_plain rfl fun ρ Os wo hs' hb hc' => ?_
      have h22 : ρ (.tmp 22) = .pointer (some ⟨bb, off, none⟩) := hs'.val' 22 0 (by kernel_rfl) rfl
      go_simp
      exact Ord.post_val rfl rfl
    · refine Ord.owes_plain rfl fun ρ Os wo hs' hb hc' => ?_
      have h33 : ρ (.tmp 33) = .pointer (some ⟨bb, off, none⟩) := hs'.val' 33 11 (by kernel_rfl) rfl
      go_simp
      exact Ord.post_val rfl rfl
    · refine Ord.owes_plain rfl fun ρ Os wo hs' hb hc' => ?_
      have h34 : ρ (.tmp 34) = .pointer (some ⟨bb, off + 2, none⟩) := hs'.val' 34 12 (by kernel_rfl) rfl
      exact Ord.ok_kept h34 (hs'.new' 32 10 (by kernel_rfl)) HBX.out (hs'.here _ rfl) (HOFF.out) (by decide) (fun _ => rfl) (fun _ => by kernel_rfl) rfl
  intro vals Os ρs w' hk hkn hln hap hbd
  obtain ⟨v', r1, r2, r3⟩ := hkn 13 (by kernel_rfl)
  have hbd := hbd 13 (by kernel_rfl)
  have HN : Hid (∀ b, v'.ownBlock = some b → (Value.slice al L.length cl).ownBlock = some b ∨ w7.heap.size ≤ b) := Lib.hid (fun b hb => (hbd b ((r3 b).2 (.inr hb))).elim .inr (fun h => h.elim (fun e => (by
    subst e
    obtain ⟨c, hc⟩ := own_block_cells r1 hb
    rw [r2] at hc
    simp only [Option.some.injEq, Obj.cells.injEq] at hc
    exact absurd hc.2.1 (by decide))) .inl))
  have HR := Lib.hid (And.intro r1 r2)
  have HK := Lib.hid hk
  clear hkn hln hap hbd hk r1 r2 r3
  simp only [Any.putAll]
  go_frame
  go_wp2_with fail
  go_ret
  exact ⟨rfl, (HEND.out _ _ HR.out.1 HR.out.2 HN.out HK.out).2⟩
end Go.Proofs.YtbigoifpfkdkjaaGreatDoor.Sc
namespace Go.Proofs.YtbigoifpfkdkjaaGreatDoor.Sc
open Go Go.RowKit Go.ChangeShapes Go.WideShapes Go.ChangeAt
set_option maxRecDepth 100000
def FilR (w0 : World) (bb off : Nat) (cur : Array Value) (lv : Value) (Lq : List Lt) (g : ByteArray) (n : Nat) (V : World) : Prop := FilP w0 bb off cur lv Lq g n (.returned (.int .i64 n)) V
def AddP (w : World) (B : Nat) (q : Int × List Bx) (e : Ending) (w' : World) : Prop :=
  Below B w w' ∧ ((¬ q.1 = 0 ∧ e = .returned (.tuple #[.slice none 0 0, .int .i64 q.1])) ∨ (q.1 = 0 ∧ ∃ v R, e = .returned (.tuple #[v, .int .i64 0]) ∧ BsAt w' v R B ∧ R.map Bv.b = q.2))
theorem fillB_next {t : List Gd} {g : ByteArray} {bs : List Bx} {c : Int} {k : Nat} (hk : k < bs.length) : fillB t g (bs.drop k) c =
    ((if 0 < fillN t bs[k].kind bs[k].lots g c then { bs[k] with lots := bs[k].lots ++ [⟨g, (fillN t bs[k].kind bs[k].lots g c : Int)⟩] } else bs[k]) :: (fillB t g (bs.drop (k + 1)) (c - fillN t bs[k].kind bs[k].lots g c)).1, (fillB t g (bs.drop (k + 1)) (c - fillN t bs[k].kind bs[k].lots g c)).2) := by
  rw [List.drop_eq_getElem_cons hk]
  rfl
/-- Where the first loop stands. -/
structure In1 (t : List Gd) (g : ByteArray) (c0 : Int) (bs : List Bx) (w wr : World) (v : Value) (b5 B k : Nat) (R : List Bv) (c : Int) : Prop where
  at' : BsAt wr v R B
  len : R.length = bs.length
  box : wr.heap[b5]? = some (.cells #[.string g, .int .i64 c] 107 (0, 0))
  lo : 0 ≤ c
  hi : c ≤ c0
  done : fillB t g bs c0 = ((R.take k).map Bv.b ++ (fillB t g (bs.drop k) c).1, (fillB t g (bs.drop k) c).2)
  rest : (R.drop k).map Bv.b = bs.drop k
  off : ∀ x ∈ R, x.v.ownBlock ≠ some b5
  below : Below B w wr
theorem keep_undrew {F : Nat → Prop} {w w' : World} (h : Keep F w.drew w') : Keep F w w' := h.undrew
theorem in1_step {t : List Gd} {g : ByteArray} {c0 c : Int} {bs : List Bx} {w wr V : World} {b5 B k bb cap : Nat} {R : List Bv} {cur : Array Value} (h : In1 t g c0 bs w wr (.slice (some ⟨bb, 0, none⟩) R.length cap) b5 B k R c) (hk : k < R.length)
    (hcur : wr.heap[bb]? = some (.cells cur 96 (0, 0))) {n : Nat} (hn : n = fillN t R[k].b.kind R[k].b.lots g c) (hf : FilR wr.drew bb (k * 3) cur R[k].v R[k].b.lots g n V) (hB5 : B ≤ b5) :
    ∃ R', R'.length = R.length ∧ In1 t g c0 bs w (V.setCell ⟨b5, 1, none⟩ (.int .i64 (c - n))) (.slice (some ⟨bb, 0, none⟩) R.length cap) b5 B (k + 1) R' (c - n) := by
  have hkb : k < bs.length := by rw [← h.len]; exact hk
  have hbk : R[k].b = bs[k] := by
    have h1 := h.rest
    rw [List.drop_eq_getElem_cons hk, List.drop_eq_getElem_cons hkb, List.map_cons] at h1
    exact (List.cons.inj h1).1
  have hrest : (R.drop (k + 1)).map Bv.b = bs.drop (k + 1) := by
    have h1 := h.rest
    rw [List.drop_eq_getElem_cons hk, List.drop_eq_getElem_cons hkb, List.map_cons] at h1
    exact (List.cons.inj h1).2
  have hnx := fillB_next (t := t) (g := g) (c := c) hkb
  rw [← hbk, ← hn] at hnx
  have hnc : n ≤ c.toNat := by rw [hn]; exact fillN_le _ _ _ _ _
  have hlo := h.lo
  have hblt : ∀ j, Blks (.slice (some ⟨bb, 0, none⟩) R.length cap) R j → B ≤ j ∧ j < wr.heap.size := fun j hj => h.at'.blks_lt hj
  have hb5 : b5 ≠ bb := fun e => by
    have h1 := h.box
    rw [e, hcur] at h1
    simp only [Option.some.injEq, Obj.cells.injEq] at h1
    exact absurd h1.2.1 (by decide)
  have h5lt := lt_blk h.box
  have atw : BsAt wr.drew (.slice (some ⟨bb, 0, none⟩) R.length cap) R B := h.at'.same fun _ _ => rfl
  -- what holds ahead of the store
  have mid : ∃ R', R'.length = R.length ∧ BsAt V (.slice (some ⟨bb, 0, none⟩) R.length cap) R' B ∧ V.heap[b5]? = wr.heap[b5]? ∧ (∀ x ∈ R', x.v.ownBlock ≠ some b5) ∧ Below B wr V ∧ (R'.take (k + 1)).map Bv.b = (R.take k).map Bv.b ++ [if 0 < n then { R[k].b with lots := R[k].b.lots ++ [⟨g, (n : Int)⟩] } else R[k].b] ∧ R'.drop (k + 1) = R.drop (k + 1) ∧ wr.heap.size ≤ V.heap.size := by
    have htk : (R.take (k + 1)).map Bv.b = (R.take k).map Bv.b ++ [R[k].b] := by rw [List.take_succ_eq_append_getElem hk, List.map_append]; rfl
    have hBw : B ≤ wr.heap.size := Nat.le_of_lt (Nat.lt_of_le_of_lt hB5 h5lt)
    rcases hf.2 with ⟨h0, hb⟩ | ⟨h0, v', hr, hh, ho, hkp⟩
    · have hb' := below_undrew hb
      refine ⟨R, rfl, atw.below hb, hb'.block b5 h5lt, h.off, hb'.mono hBw, ?_, rfl, hb'.size⟩
      rw [if_neg (by omega)]
      exact htk
    · have hkp' := keep_undrew hkp
      have hlv := hblt
      refine ⟨R.set k ⟨{ R[k].b with lots := R[k].b.lots ++ [⟨g, (n : Int)⟩] }, v'⟩, List.length_set .., ?_, ?_, ?_, ?_, ?_, ?_, hkp'.size⟩
      · exact atw.fill hk hcur hr (by simp) hh ho hBw hkp
      · exact hkp'.block b5 h5lt fun e => e.elim hb5 (h.off _ (List.getElem_mem hk))
      · intro x hx
        obtain ⟨i, hi, rfl⟩ := List.getElem_of_mem hx
        rw [List.length_set] at hi
        by_cases e : k = i
        · subst e
          rw [List.getElem_set_self]
          intro e5
          rcases ho b5 e5 with h1 | h1
          · exact h.off _ (List.getElem_mem hk) h1
          · exact absurd h1 (Nat.not_le.2 h5lt)
        · rw [List.getElem_set_ne e]
          exact h.off _ (List.getElem_mem hi)
      · refine hkp'.below hBw fun j hj e => ?_
        rcases e with rfl | e
        · have := (hblt j (.inl rfl)).1; omega
        · have := (hblt j (.inr ⟨_, List.getElem_mem hk, e⟩)).1; omega
      · have hks : k < (R.set k ⟨{ R[k].b with lots := R[k].b.lots ++ [⟨g, (n : Int)⟩] }, v'⟩).length := by rw [List.length_set]; exact hk
        rw [if_pos h0, List.take_succ_eq_append_getElem hks, List.getElem_set_self, List.take_set, List.set_eq_of_length_le (by rw [List.length_take]; omega), List.map_append]
        rfl
      · rw [List.drop_set_of_lt (by omega)]
  obtain ⟨R', hl, hat, hbx, hoff, hbel, htk, hdr, hsz⟩ := mid
  have hbx2 : V.heap[b5]? = some (.cells #[.string g, .int .i64 c] 107 (0, 0)) := hbx.trans h.box
  have hsame : ∀ j, j ≠ b5 → (V.setCell ⟨b5, 1, none⟩ (.int .i64 (c - n))).heap[j]? = V.heap[j]? := fun j hj => Below.heap_setCell V _ _ j (fun e => hj e)
  refine ⟨R', hl, ⟨hat.same fun j hj => hsame j fun e => ?_, hl.trans h.len, by simp [World.setCell, Array.getElem?_modify, hbx2], by omega, by have := h.hi; omega, ?_, ?_, hoff, ?_⟩⟩
  · subst e
    rcases hj with hj | ⟨x, hx, hj⟩
    · exact hb5 (Option.some.inj hj).symm
    · exact hoff x hx hj
  · rw [h.done, hnx, htk]
    simp
  · rw [hdr, hrest]
  · exact (h.below.trans hbel).trans ⟨rfl, rfl, rfl, by simp [World.setCell], fun j hj => hsame j (by omega)⟩
/-- Where the second loop stands. -/
structure In2 (t : List Gd) (g : ByteArray) (c0 : Int) (res : Int × List Bx) (w wr : World) (v : Value) (b5 B f : Nat) (Q : List Bv) (c : Int) : Prop where
  at' : BsAt wr v Q B
  fuel : f + Q.length = 65
  len : Q.length ≤ 64
  box : wr.heap[b5]? = some (.cells #[.string g, .int .i64 c] 107 (0, 0))
  lo : 0 ≤ c
  hi : c ≤ c0
  done : res = newB t g f (Q.map Bv.b) c
  off : ∀ x ∈ Q, x.v.ownBlock ≠ some b5
  below : Below B w wr
theorem in2_start {t : List Gd} {g : ByteArray} {c0 c : Int} {bs : List Bx} {w wr : World} {v : Value} {b5 B k : Nat} {R : List Bv} (h : In1 t g c0 bs w wr v b5 B k R c) (hk : R.length ≤ k) (hl : R.length ≤ 64) : In2 t g c0 (addB t ⟨g, c0⟩ bs) w wr v b5 B (65 - R.length) R c := by
  refine ⟨h.at', by omega, hl, h.box, h.lo, h.hi, ?_, h.off, h.below⟩
  have h1 := h.done
  rw [List.take_of_length_le hk, List.drop_of_length_le (by rw [← h.len]; exact hk)] at h1
  simp only [fillB, List.append_nil] at h1
  rw [addB, h1, ← h.len]
/-- A new box was filled, and the count told. -/
theorem in2_mid {t : List Gd} {g : ByteArray} {c0 c kd : Int} {res : Int × List Bx} {w wr w6 V : World} {v : Value} {b5 b11 B f : Nat} {Q : List Bv} (h : In2 t g c0 res w wr v b5 B f Q c) (h6 : Below wr.heap.size wr w6) (hb11 : wr.heap.size ≤ b11)
    {n : Nat} (hn : 1 ≤ n) (hf : FilR w6.drew b11 0 #[.string ⟨#[]⟩, .int .i64 kd, .slice none 0 0] (.slice none 0 0) [] g n V) (hB5 : B ≤ b5) :
    ∃ a1 c1, (V.setCell ⟨b5, 1, none⟩ (.int .i64 (c - n))).heap[b11]? = some (.cells #[.string ⟨#[]⟩, .int .i64 kd, .slice a1 1 c1] 96 (0, 0)) ∧ BsAt (V.setCell ⟨b5, 1, none⟩ (.int .i64 (c - n))) v Q B ∧
      (V.setCell ⟨b5, 1, none⟩ (.int .i64 (c - n))).ownsRow B 107 2 (.slice a1 1 c1) 1 (ltCells [⟨g, n⟩]) ∧ (∀ y ∈ Q, ∀ k, y.v.ownBlock = some k → (Value.slice a1 1 c1).ownBlock ≠ some k) ∧ (Value.slice a1 1 c1).ownBlock ≠ some b5 ∧
      (V.setCell ⟨b5, 1, none⟩ (.int .i64 (c - n))).heap[b5]? = some (.cells #[.string g, .int .i64 (c - n)] 107 (0, 0)) ∧ Below B w (V.setCell ⟨b5, 1, none⟩ (.int .i64 (c - n))) := by
  have h5lt := lt_blk h.box
  have hBw : B ≤ wr.heap.size := Nat.le_of_lt (Nat.lt_of_le_of_lt hB5 h5lt)
  rcases hf.2 with ⟨h0, _⟩ | ⟨_, v', hr, hh, ho, hkp⟩
  · omega
  have hkp' := keep_undrew hkp
  obtain ⟨a1, c1, rfl⟩ : ∃ a c, v' = .slice a 1 c := Ord.row_slice hr
  have hnone : ∀ k, ¬ (Value.slice none 0 0).ownBlock = some k := fun k e => by cases e
  have hF : ∀ k, k < wr.heap.size → ¬ (k = b11 ∨ (Value.slice none 0 0).ownBlock = some k) := fun k hk e => e.elim (fun e => by omega) (hnone k)
  have hnew : ∀ b, (Value.slice a1 1 c1).ownBlock = some b → wr.heap.size ≤ b := fun b hb => (ho b hb).elim (fun e => absurd e (hnone b)) (fun e => Nat.le_trans h6.size e)
  have hV : Below wr.heap.size wr V := h6.trans ⟨hkp'.os, hkp'.tape, hkp'.output, hkp'.size, fun k hk => hkp'.block k (Nat.lt_of_lt_of_le hk h6.size) (hF k hk)⟩
  have hb5 : b5 ≠ b11 := by omega
  have hbx : V.heap[b5]? = some (.cells #[.string g, .int .i64 c] 107 (0, 0)) := (hV.block b5 h5lt).trans h.box
  have hsame : ∀ j, j ≠ b5 → (V.setCell ⟨b5, 1, none⟩ (.int .i64 (c - n))).heap[j]? = V.heap[j]? := fun j hj => Below.heap_setCell V _ _ j (fun e => hj e)
  refine ⟨a1, c1, (hsame b11 (fun e => hb5 e.symm)).trans hh, (h.at'.below hV).same fun j hj => hsame j fun e => ?_, ?_, fun y hy k hk e => ?_, fun e => ?_, by simp [World.setCell, Array.getElem?_modify, hbx], ?_⟩
  · subst e
    rcases hj with hj | ⟨x, hx', hj⟩
    · exact own_ne (h.at'.below hV).own (show V.ownsRow 0 107 2 (.slice (some ⟨j, 0, none⟩) 1 1) 1 [.string g, .int .i64 c] from ⟨rfl, .inr ⟨j, 1, _, rfl, Nat.zero_le _, hbx, Nat.le_refl _, by decide, rfl, rfl⟩⟩) (by decide) j hj rfl
    · exact h.off x hx' hj
  · refine Any.ownsRow_same (own_base (by simpa using hr) fun k hk => Nat.le_trans hBw (hnew k hk)) fun k hk => hsame k fun e => ?_
    subst e
    exact absurd (hnew _ hk) (Nat.not_le.2 h5lt)
  · have h1 := ((h.at'.lots y hy).lt k hk).2
    have h2 := hnew k e
    omega
  · exact absurd (hnew _ e) (Nat.not_le.2 h5lt)
  · exact (h.below.trans (hV.mono hBw)).trans ⟨rfl, rfl, rfl, by simp [World.setCell], fun j hj => hsame j (by omega)⟩
theorem in2_next {t : List Gd} {g : ByteArray} {c0 c kd : Int} {res : Int × List Bx} {w wr V W : World} {v v2 : Value} {b5 B f n : Nat} {Q : List Bv} {a1 : Option Addr} {c1 : Nat} (h : In2 t g c0 res w wr v b5 B f Q c) (hc : ¬ c ≤ 0) (hk : freshK t g c = some kd) (h64 : ¬ 64 ≤ Q.length) (hn : n = fillN t kd [] g c)
    (hat : BsAt V v Q B) (hx : V.ownsRow B 107 2 (.slice a1 1 c1) 1 (ltCells [⟨g, n⟩])) (hap : ∀ y ∈ Q, ∀ k, y.v.ownBlock = some k → (Value.slice a1 1 c1).ownBlock ≠ some k) (hoff : (Value.slice a1 1 c1).ownBlock ≠ some b5)
    (hbx : V.heap[b5]? = some (.cells #[.string g, .int .i64 (c - n)] 107 (0, 0))) (hbel : Below B w V) (hB5 : B ≤ b5)
    (ho : W.ownsRow B 96 3 v2 (Q.length + 1) (bvCells Q ++ [.string ⟨#[]⟩, .int .i64 kd, .slice a1 1 c1])) (hg : V.grownBy W v.ownBlock) :
    ∃ f', In2 t g c0 res w W v2 b5 B f' (Q ++ [⟨⟨⟨#[]⟩, kd, [⟨g, n⟩]⟩, .slice a1 1 c1⟩]) (c - n) := by
  obtain ⟨f', rfl⟩ : ∃ f', f = f' + 1 := ⟨f - 1, by have := h.fuel; have := h.len; omega⟩
  have hnc : n ≤ c.toNat := by rw [hn]; exact fillN_le _ _ _ _ _
  have hlo := h.lo
  have h5lt := lt_blk hbx
  have hvb : v.ownBlock ≠ some b5 := fun e => own_ne hat.own (show V.ownsRow 0 107 2 (.slice (some ⟨b5, 0, none⟩) 1 1) 1 [.string g, .int .i64 (c - n)] from ⟨rfl, .inr ⟨b5, 1, _, rfl, Nat.zero_le _, hbx, Nat.le_refl _, by decide, rfl, rfl⟩⟩) (by decide) b5 e rfl
  refine ⟨f', hat.push (x := ⟨⟨⟨#[]⟩, kd, [⟨g, n⟩]⟩, .slice a1 1 c1⟩) hx hap ho hg, ?_, ?_, ?_, by omega, by have := h.hi; omega, ?_, ?_, ?_⟩
  · have := h.fuel
    rw [List.length_append, List.length_singleton]
    omega
  · rw [List.length_append, List.length_singleton]
    omega
  · rw [hg.block b5 h5lt (fun e => hvb e.symm)]
    exact hbx
  · have h1 := h.done
    rw [newB, if_neg hc, hk] at h1
    simp only at h1
    rw [if_neg (by rw [List.length_map]; exact h64), ← hn] at h1
    rw [h1, List.map_append]
    rfl
  · intro x hx'
    rcases List.mem_append.1 hx' with hx' | hx'
    · exact h.off x hx'
    · rw [List.mem_singleton.1 hx']; exact hoff
  · exact hbel.grown hg (by omega) fun k hk => (hat.own.lt k hk).1
end Go.Proofs.YtbigoifpfkdkjaaGreatDoor.Sc
namespace Go.Proofs.YtbigoifpfkdkjaaGreatDoor.Sc
open Go Go.RowKit Go.ChangeShapes Go.WideShapes Go.ChangeAt
set_option maxRecDepth 100000
theorem below_drew' (B : Nat) (w : World) : Below B w w.drew := ⟨rfl, rfl, rfl, Nat.le_refl _, fun _ _ => rfl⟩
theorem infoBx : (Tryz.prog.info? 96).map (fun i => (i.zero, i.size, i.bytes)) = some (some (.agg #[.string ⟨#[]⟩, .int .i64 0, .slice none 0 0]), 3, 48) := by kernel_rfl
set_option maxHeartbeats 2000000 in
theorem add_any (t : List Gd) (g : ByteArray) (c : Int) (bt bm : Nat) (v : Value) (R : List Bv) (B M : Nat) (w : World) (hap : ∀ V, Below B w V → ApT V) (htab : ∀ V, Below B w V → Tab V bt bm t) (hn : (codes t).Nodup) (hok : ∀ g ∈ t, gdOk g = true)
    (hb : BsAt w v R B) (hB : B ≤ w.heap.size) (hc0 : 0 ≤ c) (hc : c ≤ 1099511627776) (hlen : R.length ≤ 64) (hmax : LotsMax M (R.map Bv.b)) (hM : M ≤ 1000) :
    Calls Tryz.prog 83 #[.pointer (some ⟨bt, 0, none⟩), v, .agg #[.string g, .int .i64 c]] w (AddP w B (addB t ⟨g, c⟩ (R.map Bv.b))) := by
  obtain ⟨av, cv, rfl⟩ : ∃ a c, v = .slice a R.length c := by
    obtain ⟨a, c, h⟩ := Ord.row_slice hb.own
    exact ⟨a, c, h⟩
  obtain ⟨bs, hbs⟩ : ∃ bs, bs = R.map Bv.b := ⟨_, rfl⟩
  rw [← hbs] at hmax ⊢
  have hbl : bs.length = R.length := by rw [hbs, List.length_map]
  have HAP := Lib.hid hap
  have HTB := Lib.hid htab
  have HOK := Lib.hid hok
  have HMX := Lib.hid hmax
  have HBL := Lib.hid hbl
  have hB5 := hB
  obtain ⟨w1, hw1⟩ : ∃ w1, w1 = w.alloc (.cells #[.string g, .int .i64 c] 107) := ⟨_, rfl⟩
  obtain ⟨b5, hb5⟩ : ∃ b, b = w.heap.size := ⟨_, rfl⟩
  have hbel1 : Below B w w1 := by rw [hw1]; exact (one_below w _).mono hB
  have HI0 : Hid (In1 t g c bs w w1 (.slice av R.length cv) b5 B 0 R c) := Lib.hid ⟨hb.below (by rw [hw1]; exact one_below w _), hbl.symm, by rw [hw1, hb5]; exact heap_alloc_new w _, hc0, Int.le_refl _, by simp, by simp [hbs], fun x hx e => by
    have := (hb.lots x hx).lt b5 e
    omega, hbel1⟩
  have HB5 : Hid (B ≤ b5) := Lib.hid (by omega)
  have HC := Lib.hid hc
  clear hap htab hok hmax hb hc hbel1 hbs hbl hB5
  go_enter Tryz.func83, Tryz.ntmps83
  go_wp2_with fail
  rw [← hw1, ← hb5]
  clear hw1 hb5
  go_loopw [8, 14] (fun _ i wr => ∃ (k : Nat) (Q : List Bv) (c' : Int), k ≤ R.length ∧ i = .int .i64 k ∧ Q.length = R.length ∧ In1 t g c bs w wr (.slice av R.length cv) b5 B k Q c') (fun _ i _ => R.length - (intOf i).toNat)
  case atStart => exact ⟨0, R, c, Nat.zero_le _, rfl, rfl, HI0.out⟩
  case round =>
    obtain ⟨k, Q, c', hk, rfl, hql, hin⟩ := hrel
    by_cases hlt : k < R.length
    · have hkq : k < Q.length := by omega
      obtain ⟨bb, cap, cur, hv, hcur, h3, h4, e0, e1, e2⟩ := hin.at'.at hkq
      rw [hql] at hv
      obtain ⟨rfl, rfl⟩ : av = some ⟨bb, 0, none⟩ ∧ cv = cap := by
        simp only [Value.slice.injEq, true_and] at hv
        exact hv
      have HIN := Lib.hid hin
      have hbel := hin.below
      have hlots := hin.at'.lots _ (List.getElem_mem hkq)
      have hkb : k < bs.length := by rw [HBL.out]; exact hlt
      have hbk : Q[k].b = bs[k] := by
        have h1 := hin.rest
        rw [List.drop_eq_getElem_cons hkq, List.drop_eq_getElem_cons hkb, List.map_cons] at h1
        exact (List.cons.inj h1).1
      have hmk : Q[k].b.lots.length ≤ M := by rw [hbk]; exact HMX.out _ (List.getElem_mem _)
      have hhi := hin.hi
      have hlo := hin.lo
      have hbox := hin.box
      obtain ⟨n, hnn⟩ : ∃ n, n = fillN t Q[k].b.kind Q[k].b.lots g c' := ⟨_, rfl⟩
      have hdw : Below B w wr.drew := hbel.trans (below_drew' _ _)
      obtain ⟨lv, Lq, HFI, HST, HCB⟩ : ∃ (lv : Value) (Lq : List Lt), Hid (Calls Tryz.prog 148 #[.pointer (some ⟨bt, 0, none⟩), .pointer (some ⟨bb, k * 3, none⟩), .agg #[.string g, .int .i64 c']] wr.drew (FilP wr.drew bb (k * 3) cur lv Lq g n)) ∧
          Hid (∀ V, FilR wr.drew bb (k * 3) cur lv Lq g n V → ∃ Q', Q'.length = R.length ∧ In1 t g c bs w (V.setCell ⟨b5, 1, none⟩ (.int .i64 (c' - n))) (.slice (some ⟨bb, 0, none⟩) R.length cv) b5 B (k + 1) Q' (c' - n)) ∧
          Hid (∀ V, (V = wr.drew ∨ FilR wr.drew bb (k * 3) cur lv Lq g n V) → V.heap[b5]? = some (.cells #[.string g, .int .i64 c'] 107 (0, 0))) := by
        refine ⟨Q[k].v, Q[k].b.lots, Lib.hid ?_, Lib.hid fun V hV => ?_, Lib.hid fun V hV => ?_⟩
        · have := fill_any t Q[k].b.mark g Q[k].b.kind c' Q[k].b.lots bt bm bb (k * 3) cur Q[k].v wr.drew (HAP.out _ hdw) (ownsRow_base (show wr.drew.ownsRow B 107 2 Q[k].v Q[k].b.lots.length (ltCells Q[k].b.lots) from hlots) (Nat.zero_le _)) (by omega) (HTB.out _ hdw) hn HOK.out hcur e0 e1 e2 (by have := HC.out; omega)
          rwa [← hnn] at this
        · obtain ⟨Q', h1, h2⟩ := in1_step (show In1 t g c bs w wr (.slice (some ⟨bb, 0, none⟩) Q.length cv) b5 B k Q c' by rw [hql]; exact hin) hkq hcur hnn hV HB5.out
          rw [hql] at h1 h2
          exact ⟨Q', h1, h2⟩
        · rcases hV with rfl | hV
          · exact hbox
          · rcases hV.2 with ⟨_, hb⟩ | ⟨_, v', _, _, _, hkp⟩
            · exact (hb.block b5 (lt_blk hbox)).trans hbox
            · refine (hkp.block b5 (lt_blk hbox) fun e => ?_).trans hbox
              rcases e with e | e
              · subst e
                rw [hcur] at hbox
                simp only [Option.some.injEq, Obj.cells.injEq] at hbox
                exact absurd hbox.2.1 (by decide)
              · exact hin.off _ (List.getElem_mem hkq) e
      have HCN : Hid ((n : Int) ≤ c' ∧ c' ≤ 1099511627776) := Lib.hid (by
        have h1 := fillN_le t Q[k].b.kind Q[k].b.lots g c'
        rw [← hnn] at h1
        have := HC.out
        omega)
      have x5 := hbox
      have hn8 : R.length ≤ 64 := hlen
      have tk : ((k : Nat) : Int) < (R.length : Int) := by omega
      clear HIN hin hcur h3 h4 e0 e1 e2 hlots hbk hmk hhi hlo hnn hdw hbel hbox hkb hkq hql HI0 x5
      clear Q
      go_wp2_with fail
      refine Stg.region_lit (fun
        | 0 => .pointer (some ⟨b5, 1, none⟩)
        | 1 => .int .i64 c'
        | 2 => .pointer (some ⟨bt, 0, none⟩)
        | 3 => .slice (some ⟨bb, 0, none⟩) R.length cv
        | 4 => .int .i64 (k : Int)
        | 5 => .pointer (some ⟨bb, k * 3, none⟩)
        | 6 => .agg #[.string g, .int .i64 c']
        | 7 => .int .i64 n
        | 8 => .int .i64 (c' - n)
        | 9 => .pointer (some ⟨b5, 1, none⟩)
        | 10 => undef
        | _ => undef) [(10, (fun V => ∃ u, (FilR wr.drew bb (k * 3) cur lv Lq g n) u ∧ V = u.setCell ⟨b5, 1, none⟩ (.int .i64 (c' - n)))), (7, FilR wr.drew bb (k * 3) cur lv Lq g n)] (by kernel_rfl) (by kernel_rfl) (by kernel_rfl) ?_ ?_
      · refine ⟨?_, ?_, ?_, ?_, ?_, ?_, ?_, ?_, ?_, ?_, ?_, trivial⟩
        · refine Stg.owes_pure rfl (by kernel_rfl) fun ρ L wo hs' hc' => ?_
          have h5 : ρ (.tmp 5) = .pointer (some ⟨b5, 0, none⟩) := hs'.old' 5 (by kernel_rfl)
          go_simp
          try exact ⟨rfl, rfl⟩
        · refine Stg.owes_pure rfl (by kernel_rfl) fun ρ L wo hs' hc' => ?_
          have h17 : ρ (.tmp 17) = .pointer (some ⟨b5, 1, none⟩) := hs'.new' 17 0 (by kernel_rfl)
          have hx := HCB.out wo (Stg.stage_one (C := fun V => V = wr.drew ∨ (FilR wr.drew bb (k * 3) cur lv Lq g n) V) (Stg.stage_not hs'.world (hs'.beforeR 10 (by kernel_rfl))) (.inl rfl) (fun v hv => .inr hv))
          have c0 := cell_blk hx 0
          have c1 := cell_blk hx 1
          go_simp
          try exact ⟨rfl, rfl⟩
        · refine Stg.owes_pure rfl (by kernel_rfl) fun ρ L wo hs' hc' => ?_
          have h0 : ρ (.tmp 0) = .pointer (some ⟨bt, 0, none⟩) := hs'.old' 0 (by kernel_rfl)
          exact Any.ok_move ⟨h0, rfl⟩
        · refine Stg.owes_pure rfl (by kernel_rfl) fun ρ L wo hs' hc' => ?_
          have h1 : ρ (.tmp 1) = .slice (some ⟨bb, 0, none⟩) R.length cv := hs'.old' 1 (by kernel_rfl)
          exact Any.ok_move ⟨h1, rfl⟩
        · refine Stg.owes_pure rfl (by kernel_rfl) fun ρ L wo hs' hc' => ?_
          have h8 : ρ (.tmp 8) = .int .i64 (k : Int) := hs'.old' 8 (by kernel_rfl)
          exact Any.ok_move ⟨h8, rfl⟩
        · refine Stg.owes_pure rfl (by kernel_rfl) fun ρ L wo hs' hc' => ?_
          have h20 : ρ (.tmp 20) = .slice (some ⟨bb, 0, none⟩) R.length cv := hs'.new' 20 3 (by kernel_rfl)
          have h21 : ρ (.tmp 21) = .int .i64 (k : Int) := hs'.new' 21 4 (by kernel_rfl)
          go_simp
          try exact ⟨rfl, rfl⟩
        · refine Stg.owes_pure rfl (by kernel_rfl) fun ρ L wo hs' hc' => ?_
          have h5 : ρ (.tmp 5) = .pointer (some ⟨b5, 0, none⟩) := hs'.old' 5 (by kernel_rfl)
          have hx := HCB.out wo (Stg.stage_one (C := fun V => V = wr.drew ∨ (FilR wr.drew bb (k * 3) cur lv Lq g n) V) (Stg.stage_not hs'.world (hs'.beforeR 10 (by kernel_rfl))) (.inl rfl) (fun v hv => .inr hv))
          have c0 := cell_blk hx 0
          have c1 := cell_blk hx 1
          go_simp
          try exact ⟨rfl, rfl⟩
        · refine Stg.owes_turn (pre := [(10, (fun V => ∃ u, (FilR wr.drew bb (k * 3) cur lv Lq g n) u ∧ V = u.setCell ⟨b5, 1, none⟩ (.int .i64 (c' - n))))]) rfl rfl (by kernel_rfl) fun ρ L wo hs' hc' hw => ?_
          have h19 : ρ (.tmp 19) = .pointer (some ⟨bt, 0, none⟩) := hs'.new' 19 2 (by kernel_rfl)
          have h22 : ρ (.tmp 22) = .pointer (some ⟨bb, k * 3, none⟩) := hs'.new' 22 5 (by kernel_rfl)
          have h23 : ρ (.tmp 23) = .agg #[.string g, .int .i64 c'] := hs'.new' 23 6 (by kernel_rfl)
          have hf := hs'.func 148
          have e0 : wo = wr.drew := hw
          subst e0
          go_simp
          exact HFI.out.mono fun e w' h => ⟨_, h.1, rfl, ⟨rfl, h.2⟩⟩
        · refine Stg.owes_pure rfl (by kernel_rfl) fun ρ L wo hs' hc' => ?_
          have h18 : ρ (.tmp 18) = .int .i64 c' := hs'.new' 18 1 (by kernel_rfl)
          have h24 : ρ (.tmp 24) = .int .i64 n := hs'.new' 24 7 (by kernel_rfl)
          have hq := HCN.out
          go_simp
          first | exact IntWalk.i64_in _ (by omega) | exact IntWalk.wrap64_in _ (by omega) | exact congrArg (Value.int .i64) (IntWalk.i64_in _ (by omega))
        · refine Stg.owes_pure rfl (by kernel_rfl) fun ρ L wo hs' hc' => ?_
          have h5 : ρ (.tmp 5) = .pointer (some ⟨b5, 0, none⟩) := hs'.old' 5 (by kernel_rfl)
          go_simp
          try exact ⟨rfl, rfl⟩
        · refine Stg.owes_turn (pre := []) rfl rfl (by kernel_rfl) fun ρ L wo hs' hc' hw => ?_
          have h26 : ρ (.tmp 26) = .pointer (some ⟨b5, 1, none⟩) := hs'.new' 26 9 (by kernel_rfl)
          have h25 : ρ (.tmp 25) = .int .i64 (c' - n) := hs'.new' 25 8 (by kernel_rfl)
          have hr := Stg.stage_head hw (hs'.behindR 8 7 (by kernel_rfl))
          have hx := HCB.out wo (.inr hr)
          have c0 := cell_blk hx 0
          have c1 := cell_blk hx 1
          have f1 := free_blk hx 1
          go_simp
          exact ⟨wo, hr, rfl⟩
      intro L w9 hL hst
      obtain ⟨u, hu, rfl⟩ := Stg.stage_head hst (hL 10 (by decide))
      have HU := Lib.hid hu
      clear hL hst hu
      simp only [Any.putAll]
      go_frame
      go_wp2_with fail
      go_roundw
      case rel =>
        obtain ⟨Q', h1, h2⟩ := HST.out _ HU.out
        exact ⟨k + 1, Q', _, by omega, by go_num, h1, h2⟩
      case measure => (simp [intOf]) <;> omega
    · have HI2 := Lib.hid (in2_start hin (by omega) (by omega))
      have HE : Hid (∃ v2, v2 = Value.slice av R.length cv) := Lib.hid ⟨_, rfl⟩
      clear hin HI0
      obtain ⟨i0, hi, hz, hsz, hby⟩ := info_parts infoBx
      have HI := Lib.hid (And.intro hi (And.intro hz (And.intro hsz hby)))
      clear hi hz hsz hby
      generalize addB t ⟨g, c⟩ bs = res at *
      go_wp2_with fail
      go_loopw [1, 9, 10, 11] (fun v2 _ _ _ wr => ∃ (f : Nat) (Q : List Bv) (c' : Int), In2 t g c res w wr v2 b5 B f Q c') (fun v2 _ _ _ _ => match v2 with | .slice _ n _ => 65 - n | _ => 0)
      case atStart => exact ⟨_, Q, c', HI2.out⟩
      case round =>
        obtain ⟨f, Q, c', hin⟩ := hrel
        obtain ⟨a2, c2, rfl⟩ := Ord.row_slice hin.at'.own
        have x0 := cell_blk hin.box 0
        have x1 := cell_blk hin.box 1
        have l5 := lt_blk hin.box
        have hlen2 := hin.len
        have hfu := hin.fuel
        have hdone := hin.done
        have HBE := Lib.hid hin.below
        obtain ⟨f', rfl⟩ : ∃ f', f = f' + 1 := ⟨f - 1, by omega⟩
        rw [newB] at hdone
        by_cases hcc : c' ≤ 0
        · have t1 : decide (0 < c') = false := decide_eq_false (by omega)
          rw [if_pos hcc] at hdone
          have HD := Lib.hid hdone
          have HAT := Lib.hid hin.at'
          clear hin hdone hcc hfu
          go_wp2_with fail
          go_ret2
          exact ⟨HBE.out, .inr ⟨by rw [HD.out], _, Q, rfl, HAT.out, by rw [HD.out]⟩⟩
        rw [if_neg hcc] at hdone
        have t1 : decide (0 < c') = true := decide_eq_true (by omega)
        have HFR := Lib.hid (fresh_any t g c' bt bm wr (HAP.out _ HBE.out) (HTB.out _ HBE.out) hn HOK.out)
        have HCC := Lib.hid hcc
        have HIN := Lib.hid hin
        cases hkd : freshK t g c' with
        | none =>
          rw [hkd] at hdone
          have HD := Lib.hid hdone
          have hv : freshV t g c' = .tuple #[.int .i64 0, .bool false] := by rw [freshV, hkd]; rfl
          rw [hv] at HFR
          clear hin hdone hcc hfu hv hkd HIN
          go_wp2_with (first
            | ((with_reducible refine HFR.out.mono ?_); rintro e w3 ⟨rfl, hb3⟩; have HB3 := Lib.hid (HBE.out.trans (hb3.mono (Nat.le_of_lt (Nat.lt_of_le_of_lt HB5.out l5)))); clear hb3)
            | fail)
          go_ret2
          exact ⟨HB3.out, .inl ⟨by rw [HD.out]; decide, by rw [HD.out]; rfl⟩⟩
        | some kd =>
          rw [hkd] at hdone
          simp only at hdone
          rw [List.length_map] at hdone
          have hv : freshV t g c' = .tuple #[.int .i64 kd, .bool true] := by rw [freshV, hkd]; rfl
          rw [hv] at HFR
          by_cases h64 : 64 ≤ Q.length
          · have t64 : decide ((64 : Int) ≤ (Q.length : Int)) = true := decide_eq_true (by omega)
            have t64' : decide (64 ≤ Q.length) = true := decide_eq_true h64
            rw [if_pos h64] at hdone
            have HD := Lib.hid hdone
            clear hin hdone hcc hfu hv hkd HIN h64
            go_wp2_with (first
              | ((with_reducible refine HFR.out.mono ?_); rintro e w3 ⟨rfl, hb3⟩; have HB3 := Lib.hid (HBE.out.trans (hb3.mono (Nat.le_of_lt (Nat.lt_of_le_of_lt HB5.out l5)))); clear hb3)
              | fail)
            go_ret2
            exact ⟨HB3.out, .inl ⟨by rw [HD.out]; decide, by rw [HD.out]; rfl⟩⟩
          · have t64 : decide ((64 : Int) ≤ (Q.length : Int)) = false := decide_eq_false (by omega)
            have t64' : decide (64 ≤ Q.length) = false := decide_eq_false h64
            have hm1 := (fresh_may HOK.out (c := c') (by omega) hkd).2
            have hn1 := fillN_some (c := c') (by omega) hm1
            have hnc := fillN_le t kd [] g c'
            obtain ⟨n, hnn⟩ : ∃ n, n = fillN t kd [] g c' := ⟨_, rfl⟩
            rw [← hnn] at hn1 hnc
            have HN := Lib.hid hnn
            have HN1 := Lib.hid hn1
            have HK := Lib.hid hkd
            have HQ64 := Lib.hid h64
            have hhi := hin.hi
            have HCN : Hid ((n : Int) ≤ c' ∧ c' ≤ 1099511627776) := Lib.hid (by have := HC.out; omega)
            have HX5 := Lib.hid hin.box
            clear hin hdone hcc hfu hv hkd h64 hm1 hn1 hnc hnn hhi
            go_wp2_with (first
              | ((with_reducible refine HFR.out.mono ?_); rintro e w3 ⟨rfl, hb3⟩; have HB3 := Lib.hid hb3; clear hb3)
              | fail)
            obtain ⟨w6, hw6⟩ : ∃ w6, w6 = w3.alloc (.cells #[.string ⟨#[]⟩, .int .i64 kd, .slice none 0 0] 96) := ⟨_, rfl⟩
            obtain ⟨b11, hb11⟩ : ∃ b, b = w3.heap.size := ⟨_, rfl⟩
            have HX6 : Hid (w6.heap[b11]? = some (.cells #[.string ⟨#[]⟩, .int .i64 kd, .slice none 0 0] 96 (0, 0))) := Lib.hid (by rw [hw6, hb11]; exact heap_alloc_new w3 _)
            have HB6 : Hid (Below wr.heap.size wr w6) := Lib.hid (by rw [hw6]; exact HB3.out.alloc HB3.out.size _)
            have HB11 : Hid (wr.heap.size ≤ b11) := Lib.hid (by rw [hb11]; exact HB3.out.size)
            rw [← hw6, ← hb11]
            clear hw6 hb11
            have HBE6 := Lib.hid (HBE.out.trans (HB6.out.mono (Nat.le_of_lt (Nat.lt_of_le_of_lt HB5.out l5))))
            have hdw : Below B w w6.drew := HBE6.out.trans (below_drew' _ _)
            have HFI : Hid (Calls Tryz.prog 148 #[.pointer (some ⟨bt, 0, none⟩), .pointer (some ⟨b11, 0, none⟩), .agg #[.string g, .int .i64 c']] w6.drew (FilP w6.drew b11 0 #[.string ⟨#[]⟩, .int .i64 kd, .slice none 0 0] (.slice none 0 0) [] g n)) := Lib.hid (by
              rw [HN.out]
              exact fill_any t ⟨#[]⟩ g kd c' [] bt bm b11 0 _ (.slice none 0 0) w6.drew (HAP.out _ hdw) (World.ownsRow_nil _ _ _ _) (by simp) (HTB.out _ hdw) hn HOK.out HX6.out rfl rfl rfl (by have := HCN.out; omega))
            have HCB : Hid (∀ V, (V = w6.drew ∨ FilR w6.drew b11 0 #[.string ⟨#[]⟩, .int .i64 kd, .slice none 0 0] (.slice none 0 0) [] g n V) → V.heap[b5]? = some (.cells #[.string g, .int .i64 c'] 107 (0, 0))) := Lib.hid (fun V hV => by
              have h0 : w6.drew.heap[b5]? = some (.cells #[.string g, .int .i64 c'] 107 (0, 0)) := (show w6.heap[b5]? = _ from blk HB6.out l5 HX5.out)
              rcases hV with rfl | hV
              · exact h0
              · rcases hV.2 with ⟨_, hb⟩ | ⟨_, v', _, _, _, hkp⟩
                · exact (hb.block b5 (lt_blk h0)).trans h0
                · refine (hkp.block b5 (lt_blk h0) fun e => ?_).trans h0
                  rcases e with e | e
                  · have := HB11.out; omega
                  · cases e)
            have HMID := Lib.hid (fun V (hV : FilR w6.drew b11 0 #[.string ⟨#[]⟩, .int .i64 kd, .slice none 0 0] (.slice none 0 0) [] g n V) => in2_mid HIN.out HB6.out HB11.out HN1.out hV HB5.out)
            clear hdw x0 x1 l5
            refine Stg.region_lit (fun
              | 0 => .pointer (some ⟨b5, 1, none⟩)
              | 1 => .int .i64 c'
              | 2 => .pointer (some ⟨bt, 0, none⟩)
              | 3 => .agg #[.string g, .int .i64 c']
              | 4 => .int .i64 n
              | 5 => .int .i64 (c' - n)
              | 6 => .pointer (some ⟨b5, 1, none⟩)
              | 7 => undef
              | _ => undef) [(7, (fun V => ∃ u, (FilR w6.drew b11 0 #[.string ⟨#[]⟩, .int .i64 kd, .slice none 0 0] (.slice none 0 0) [] g n) u ∧ V = u.setCell ⟨b5, 1, none⟩ (.int .i64 (c' - n)))), (4, FilR w6.drew b11 0 #[.string ⟨#[]⟩, .int .i64 kd, .slice none 0 0] (.slice none 0 0) [] g n)] (by kernel_rfl) (by kernel_rfl) (by kernel_rfl) ?_ ?_
            · refine ⟨?_, ?_, ?_, ?_, ?_, ?_, ?_, ?_, trivial⟩
              · refine Stg.owes_pure rfl (by kernel_rfl) fun ρ L wo hs' hc' => ?_
                have h5 : ρ (.tmp 5) = .pointer (some ⟨b5, 0, none⟩) := hs'.old' 5 (by kernel_rfl)
                go_simp
                try exact ⟨rfl, rfl⟩
              · refine Stg.owes_pure rfl (by kernel_rfl) fun ρ L wo hs' hc' => ?_
                have h44 : ρ (.tmp 44) = .pointer (some ⟨b5, 1, none⟩) := hs'.new' 44 0 (by kernel_rfl)
                have hx := HCB.out wo (Stg.stage_one (C := fun V => V = w6.drew ∨ (FilR w6.drew b11 0 #[.string ⟨#[]⟩, .int .i64 kd, .slice none 0 0] (.slice none 0 0) [] g n) V) (Stg.stage_not hs'.world (hs'.beforeR 7 (by kernel_rfl))) (.inl rfl) (fun v hv => .inr hv))
                have c0 := cell_blk hx 0
                have c1 := cell_blk hx 1
                go_simp
                try exact ⟨rfl, rfl⟩
              · refine Stg.owes_pure rfl (by kernel_rfl) fun ρ L wo hs' hc' => ?_
                have h0 : ρ (.tmp 0) = .pointer (some ⟨bt, 0, none⟩) := hs'.old' 0 (by kernel_rfl)
                exact Any.ok_move ⟨h0, rfl⟩
              · refine Stg.owes_pure rfl (by kernel_rfl) fun ρ L wo hs' hc' => ?_
                have h5 : ρ (.tmp 5) = .pointer (some ⟨b5, 0, none⟩) := hs'.old' 5 (by kernel_rfl)
                have hx := HCB.out wo (Stg.stage_one (C := fun V => V = w6.drew ∨ (FilR w6.drew b11 0 #[.string ⟨#[]⟩, .int .i64 kd, .slice none 0 0] (.slice none 0 0) [] g n) V) (Stg.stage_not hs'.world (hs'.beforeR 7 (by kernel_rfl))) (.inl rfl) (fun v hv => .inr hv))
                have c0 := cell_blk hx 0
                have c1 := cell_blk hx 1
                go_simp
                try exact ⟨rfl, rfl⟩
              · refine Stg.owes_turn (pre := [(7, (fun V => ∃ u, (FilR w6.drew b11 0 #[.string ⟨#[]⟩, .int .i64 kd, .slice none 0 0] (.slice none 0 0) [] g n) u ∧ V = u.setCell ⟨b5, 1, none⟩ (.int .i64 (c' - n))))]) rfl rfl (by kernel_rfl) fun ρ L wo hs' hc' hw => ?_
                have h46 : ρ (.tmp 46) = .pointer (some ⟨bt, 0, none⟩) := hs'.new' 46 2 (by kernel_rfl)
                have h11 : ρ (.tmp 11) = .pointer (some ⟨b11, 0, none⟩) := hs'.old' 11 (by kernel_rfl)
                have h47 : ρ (.tmp 47) = .agg #[.string g, .int .i64 c'] := hs'.new' 47 3 (by kernel_rfl)
                have hf := hs'.func 148
                have e0 : wo = w6.drew := hw
                subst e0
                go_simp
                exact HFI.out.mono fun e w' h => ⟨_, h.1, rfl, ⟨rfl, h.2⟩⟩
              · refine Stg.owes_pure rfl (by kernel_rfl) fun ρ L wo hs' hc' => ?_
                have h45 : ρ (.tmp 45) = .int .i64 c' := hs'.new' 45 1 (by kernel_rfl)
                have h48 : ρ (.tmp 48) = .int .i64 n := hs'.new' 48 4 (by kernel_rfl)
                have hq := HCN.out
                go_simp
                first | exact IntWalk.i64_in _ (by omega) | exact IntWalk.wrap64_in _ (by omega) | exact congrArg (Value.int .i64) (IntWalk.i64_in _ (by omega))
              · refine Stg.owes_pure rfl (by kernel_rfl) fun ρ L wo hs' hc' => ?_
                have h5 : ρ (.tmp 5) = .pointer (some ⟨b5, 0, none⟩) := hs'.old' 5 (by kernel_rfl)
                go_simp
                try exact ⟨rfl, rfl⟩
              · refine Stg.owes_turn (pre := []) rfl rfl (by kernel_rfl) fun ρ L wo hs' hc' hw => ?_
                have h50 : ρ (.tmp 50) = .pointer (some ⟨b5, 1, none⟩) := hs'.new' 50 6 (by kernel_rfl)
                have h49 : ρ (.tmp 49) = .int .i64 (c' - n) := hs'.new' 49 5 (by kernel_rfl)
                have hr := Stg.stage_head hw (hs'.behindR 5 4 (by kernel_rfl))
                have hx := HCB.out wo (.inr hr)
                have c0 := cell_blk hx 0
                have c1 := cell_blk hx 1
                have f1 := free_blk hx 1
                go_simp
                exact ⟨wo, hr, rfl⟩
            intro L w9 hL hst
            obtain ⟨u, hu, rfl⟩ := Stg.stage_head hst (hL 7 (by decide))
            have HU := Lib.hid hu
            clear hL hst hu
            simp only [Any.putAll]
            go_frame
            have HM7 := HMID.out _ HU.out
            obtain ⟨W7, hW7⟩ : ∃ W, W = u.setCell ⟨b5, 1, none⟩ (.int .i64 (c' - n)) := ⟨_, rfl⟩
            rw [← hW7] at HM7 ⊢
            clear hW7
            obtain ⟨a1, c1, q11, qat, qrow, qap, qoff, qbx, qbel⟩ := HM7
            have HQA := Lib.hid qat.own
            have HLA := Lib.hid (show Q.length + 1 ≤ maxLen ∧ (Q.length + 1) * 48 ≤ 140737488355328 ∧ B ≤ W7.heap.size by
              have h1 := HQ64.out
              have h2 := lt_blk qbx
              have h3 := HB5.out
              simp only [maxLen]
              omega)
            have HNX := Lib.hid (fun v2 W ho hg => in2_next HIN.out (by have := HCC.out; omega) HK.out HQ64.out HN.out qat qrow qap qoff qbx qbel HB5.out (v2 := v2) (W := W) ho hg)
            have y0 := cell_blk q11 0
            have y1 := cell_blk q11 1
            have y2 := cell_blk q11 2
            have l11 := lt_blk q11
            clear qat qrow qap qoff qbx qbel q11
            go_wp2_with (first
              | ((with_reducible refine Any.wpl_push ?_ ?_ ?_ Tryz.underlying90 HI.out.1 HI.out.2.1 HI.out.2.2.1 HI.out.2.2.2 ?_ (by decide) ?_ ((by intro x hx; simp at hx; rcases hx with rfl | rfl | rfl <;> simp [Value.oneCell'])) (HQA.out) HLA.out.1 HLA.out.2.1 HLA.out.2.2 ?_); rfl; rfl; rfl; rfl; rfl; intro v9 w9 hown9 hgrow9 hwho9)
              | fail)
            go_roundw
            case rel =>
              obtain ⟨f', h1⟩ := HNX.out _ _ hown9 hgrow9
              exact ⟨f', _, _, h1⟩
            case measure =>
              obtain ⟨f', h1⟩ := HNX.out _ _ hown9 hgrow9
              obtain ⟨a9, c9, rfl⟩ := Ord.row_slice hown9
              have := HQ64.out
              simp only
              omega
end Go.Proofs.YtbigoifpfkdkjaaGreatDoor.Sc
