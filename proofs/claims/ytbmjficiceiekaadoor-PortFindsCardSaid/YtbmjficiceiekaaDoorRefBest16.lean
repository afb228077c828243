/- The earliest way, by the reference. -/
import Derived.Test.YtbmjficiceiekaaDoorRefRound16
namespace Go.Proofs.YtbmjficiceiekaaDoor.Sc
open Go Go.RowKit Go.ChangeShapes Go.WideShapes Go.ChangeAt
set_option maxRecDepth 100000

theorem restT_len (i a b n : Nat) : (restT i a b n).length ≤ n := by simp [restT]
theorem restC_len (R : Rf) (fr : ByteArray) (ch : Int) (i n : Nat) : ∀ (l : List Cl) (a : Nat), (restC R fr ch i n l a).length ≤ l.length * n
  | [], _ => by simp [restC]
  | c :: r, a => by
    have h1 := restC_len R fr ch i n r (a + 1)
    have h2 := restT_len i a (a + 1) n
    rw [restC, List.length_append, List.length_cons, Nat.add_mul, Nat.one_mul]
    split
    · omega
    · simp; omega
theorem restV_len (R : Rf) (fr : ByteArray) (ch : Int) : ∀ (V : List Vm) (i : Nat), (∀ v ∈ V, v.calls.length ≤ 64) → (restV R fr ch V i).length ≤ V.length * 4096
  | [], _, _ => by simp [restV]
  | v :: r, i, h => by
    have h1 := restV_len R fr ch r (i + 1) (fun x hx => h x (List.mem_cons_of_mem _ hx))
    have h2 := restC_len R fr ch i v.calls.length v.calls 0
    have h3 := h v (List.mem_cons_self ..)
    have h4 : v.calls.length * v.calls.length ≤ 64 * 64 := Nat.mul_le_mul h3 h3
    rw [restV, List.length_append, List.length_cons, Nat.add_mul]
    omega
theorem clean_len (l : List Vm) : ∀ v ∈ l.map cleanV, v.calls.length ≤ 64 := by
  intro v hv
  obtain ⟨x, _, rfl⟩ := List.mem_map.1 hv
  unfold cleanV
  split
  · rename_i h; exact (mayV_cs h).2.2.1
  · simp
theorem rfOf_one (fr : ByteArray) (ready : Int) (v : Value) : rfOf [⟨fr, ready, v, []⟩] = R0 fr ready := by
  funext p
  unfold R0
  by_cases h : p = fr
  · subst h
    rw [if_pos rfl]
    have h1 : rIdx [(⟨p, ready, v, []⟩ : Rc)] p = some 0 := rIdx_some (by simp) (by rw [isP_at (by simp)]; simp) (fun j hj => absurd hj (Nat.not_lt_zero _))
    rw [rfOf_some h1 (by simp)]
    rfl
  · rw [if_neg h]
    refine rfOf_none (rIdx_none fun j hj => ?_)
    obtain rfl : j = 0 := by simp at hj; omega
    rw [isP_at (by simp)]
    exact decide_eq_false (fun e => h e.symm)
theorem start_out {w : World} (fr : ByteArray) (ready : Int) : OutOk (w.alloc (.cells #[.string fr, .int .i64 ready, .slice none 0 0] 64)) w.heap.size (.slice (some ⟨w.heap.size, 0, none⟩) 1 1) [⟨fr, ready, .slice none 0 0, []⟩] := by
  refine ⟨⟨rfl, .inr ⟨w.heap.size, 1, _, rfl, Nat.le_refl _, heap_alloc_new _ _, Nat.le_refl _, by simp [maxLen], rfl, rfl⟩⟩, fun x hx => ?_⟩
  obtain rfl := List.mem_singleton.1 hx
  exact ⟨rfl, .inl ⟨rfl, rfl⟩⟩
set_option maxHeartbeats 8000000 in
theorem refBest_any (l : List Vm) (vl : Value) (fr tp : ByteArray) (ready ch : Int) (w : World) (hs : VsAt w vl l) (hf : ∀ x ∈ l, x.fit) (hl : l.length ≤ 8) :
    Calls Tryd.prog 14 #[vl, .string fr, .string tp, .int .i64 ready, .int .i64 ch] w (BestP w (bestR l fr tp ready ch)) := by
  by_cases hft : fr = tp
  · have s1 : (fr.toList == tp.toList) = true := by rw [str_beq, decide_eq_true hft]
    rw [bestR, if_pos hft]
    clear hs hft hf hl
    go_enter Tryd.func14, Tryd.ntmps14
    go_wp2_with fail
    go_ret3
    exact ⟨rfl, Below.refl _ _⟩
  have s1 : (fr.toList == tp.toList) = false := by rw [str_beq, decide_eq_false hft]
  rw [bestR, if_neg hft]
  obtain ⟨cn, hcn⟩ : ∃ cn, heldN ch = cn := ⟨_, rfl⟩
  have hc : 0 ≤ cn ∧ cn ≤ 1048576 := by rw [← hcn]; unfold heldN; split <;> (try split) <;> omega
  have HHD := Lib.hid (fun W => held_any ch W)
  rw [hcn] at HHD
  rw [hcn]
  obtain ⟨K, hK⟩ : ∃ K, K = 32768 := ⟨_, rfl⟩
  have HK := Lib.hid hK
  have HRN := Lib.hid (fun (k : Nat) (hk : k ≤ 7) (m : List Rc) (vo : Value) (W : World) (hW : Below w.heap.size w W) (ho : OutOk W w.heap.size vo m) (hr : rfOf m = roundsR (l.map cleanV) fr cn ready k) (hm : m.length ≤ 1 + k * K) => (by
    have hrk := rounds_ok (clean_ok l) fr cn ready k
    have hlen := restV_len (rfOf m) fr cn (l.map cleanV) 0 (clean_len l)
    rw [List.length_map] at hlen
    have h1 : k * K ≤ 7 * K := Nat.mul_le_mul_right _ hk
    have h2 := refRound_any l vl m vo fr cn W (hs.below hW) hf (own_rcs ho.1 rfl) ho.2 hc (fun p d ls h => by
      rw [hr] at h
      refine ⟨fun e => ?_, fun e => ?_, Nat.le_trans (hrk.len p d ls h) (by omega)⟩
      · subst e
        rw [hrk.from_] at h
        exact (Prod.mk.inj (Option.some.inj h)).2.symm
      · obtain ⟨h3, h4⟩ := hrk.day p d ls h e
        exact ⟨h4, h3⟩) (1 + (k + 1) * K) (by rw [Nat.add_mul]; omega) (by rw [Nat.add_mul]; omega) (by omega)
    rw [hr] at h2
    exact h2 : Calls Tryd.prog 33 #[vl, vo, .string fr, .int .i64 cn] W (RoundP W (roundsR (l.map cleanV) fr cn ready (k + 1)) (1 + (k + 1) * K))))
  generalize l.map cleanV = V at *
  clear hs hf hl hft hcn hc hK
  go_enter Tryd.func14, Tryd.ntmps14
  go_wp2_with fail
  go_loopw [13, 14] (fun o i wr => ∃ (k : Nat) (v : Value) (m : List Rc), k ≤ 8 ∧ i = .int .i64 k ∧ o = v ∧ OutOk wr w.heap.size v m ∧ rfOf m = roundsR V fr cn ready k ∧ m.length ≤ 1 + k * K ∧ Below w.heap.size w wr) (fun _ i _ => 8 - (intOf i).toNat)
  case atStart => exact ⟨0, _, [⟨fr, ready, .slice none 0 0, []⟩], by omega, rfl, rfl, start_out fr ready, rfOf_one fr ready _, by simp, one_below _ _⟩
  case round =>
    obtain ⟨k, uo, m, hk, rfl, rfl, hok, hrr, hml, hbel⟩ := hrel
    have HOK := Lib.hid hok
    have HB := Lib.hid hbel
    by_cases hlt : k < 8
    · have hki : ((k : Nat) : Int) < 8 := by omega
      have HRK := Lib.hid (fun W (hW : Below wr.heap.size wr W) => HRN.out k (by omega) m _ W (HB.out.trans (hW.mono HB.out.size)) (HOK.out.below hW) hrr hml)
      have HKL := Lib.hid hlt
      clear hok hrr hml hbel
      go_wp2_with (first
        | ((with_reducible refine (HHD.out _).mono ?_); rintro e w2 ⟨rfl, hb2⟩; have HB2 := Lib.hid hb2; clear hb2)
        | ((with_reducible refine (HRK.out _ HB2.out).mono ?_); rintro e w3 ⟨v3, m3, rfl, ho3, hr3, hm3, hb3⟩
           have HO3 : Hid (OutOk w3 w.heap.size v3 m3) := Lib.hid ⟨ownsRow_base ho3.1 (Nat.le_trans HB.out.size HB2.out.size), ho3.2⟩
           have HR3 := Lib.hid (And.intro hr3 hm3); have HB3 := Lib.hid ((HB.out.trans (HB2.out.mono HB.out.size)).trans (hb3.mono (Nat.le_trans HB.out.size HB2.out.size))); clear ho3 hr3 hm3 hb3)
        | fail)
      go_roundw
      case rel => exact ⟨k + 1, _, m3, by have := HKL.out; omega, by go_num, rfl, HO3.out, HR3.out.1, HR3.out.2, HB3.out⟩
      case measure => have := HKL.out; (simp [intOf]) <;> omega
    · have hki : ¬ ((k : Nat) : Int) < 8 := by omega
      obtain rfl : k = 8 := by omega
      have HFD := Lib.hid (find_any m _ tp wr (own_rcs HOK.out.1 rfl))
      have hmm : m.length ≤ 1000000 := by have := HK.out; omega
      clear hok hml hbel hk hlt
      cases hri : rIdx m tp with
      | none =>
        have HRR : Hid (roundsR V fr cn ready 8 tp = none) := Lib.hid (by rw [← hrr]; exact rfOf_none hri)
        rw [hri] at HFD
        obtain ⟨m1, hm1⟩ : ∃ m1, idxI none = m1 := ⟨_, rfl⟩
        have t0 : decide (m1 < (0 : Int)) = true := by rw [← hm1]; decide
        rw [hm1] at HFD
        clear hri hm1 hrr
        go_wp2_with (first
          | ((with_reducible refine (HFD.out).mono ?_); rintro e w2 ⟨rfl, hb2⟩; have HB2 := Lib.hid (HB.out.trans (hb2.mono HB.out.size)); clear hb2)
          | fail)
        go_ret3
        rw [HRR.out]
        exact ⟨rfl, HB2.out⟩
      | some j =>
        obtain ⟨hj, -⟩ := rIdx_port hri
        rw [hri, show idxI (some j) = (j : Int) from rfl] at HFD
        obtain ⟨g, cap, cur, rfl, -, hgb⟩ := own_pos HOK.out.1 (by omega)
        have HLG := Lib.hid (HOK.out.2 _ (List.getElem_mem hj))
        have hpt := fun W (hW : Below wr.heap.size wr W) => rc_at (own_rcs (ownsRow_below HOK.out.1 hW) rfl) hj
        have HPT : Hid (∀ W, Below wr.heap.size wr W → W.cell? ⟨g, j * 3 + 1, none⟩ = some (.int .i64 m[j].day) ∧ W.cell? ⟨g, j * 3 + 2, none⟩ = some m[j].val) := Lib.hid (fun W hW => by
          obtain ⟨b, off, he, -, hp⟩ := hpt W hW
          simp only [Option.some.injEq, Addr.mk.injEq, and_true] at he
          obtain ⟨rfl, rfl⟩ := he
          rw [Nat.zero_add] at hp
          exact hp.2)
        have tj : decide ((j : Int) < 0) = false := decide_eq_false (by omega)
        have hjz : (j : Int) < (m.length : Int) := by omega
        have HJ := Lib.hid hj
        obtain ⟨dz, hdz⟩ : ∃ d, m[j].day = d := ⟨_, rfl⟩
        obtain ⟨lz, hlz⟩ : ∃ d, m[j].legs = d := ⟨_, rfl⟩
        obtain ⟨vz, hvz⟩ : ∃ d, m[j].val = d := ⟨_, rfl⟩
        have HLG : Hid (wr.ownsRow 0 37 3 vz lz.length (lgCells lz)) := Lib.hid (by rw [← hlz, ← hvz]; exact HLG.out)
        have HPT : Hid (∀ W, Below wr.heap.size wr W → W.cell? ⟨g, j * 3 + 1, none⟩ = some (.int .i64 dz) ∧ W.cell? ⟨g, j * 3 + 2, none⟩ = some vz) := Lib.hid (by rw [← hdz, ← hvz]; exact HPT.out)
        have HRR : Hid (roundsR V fr cn ready 8 tp = some (dz, lz)) := Lib.hid (by rw [← hrr, ← hdz, ← hlz]; exact rfOf_some hri hj)
        clear hri hpt hgb hdz hlz hvz hrr
        go_wp2_with (first
          | ((with_reducible refine (HFD.out).mono ?_); rintro e w2 ⟨rfl, hb2⟩; have HB2 := Lib.hid hb2; obtain ⟨z1, z2⟩ := HPT.out w2 hb2; clear hb2)
          | fail)
        go_quiet (fail)
        go_wp2_with fail
        go_ret3
        have hb3 := below_drewN (Below.refl w2.heap.size w2) nq
        rw [HRR.out]
        exact ⟨_, rfl, (HB.out.trans (HB2.out.mono HB.out.size)).trans (hb3.mono (Nat.le_trans HB.out.size HB2.out.size)), own_lgs (ownsRow_below (ownsRow_below HLG.out HB2.out) hb3) rfl⟩
end Go.Proofs.YtbmjficiceiekaaDoor.Sc
