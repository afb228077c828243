/- copied: voyages in memory of their own. -/
import Derived.Test.YtbmjficiceiekaaDoorEq16
namespace Go.Proofs.YtbmjficiceiekaaDoor.Sc
open Go Go.RowKit Go.ChangeShapes Go.WideShapes Go.ChangeAt
set_option maxRecDepth 100000

theorem rows_ne {w : World} {B B' sz sz' n n' : Nat} {e e' : TypeId} {v v' : Value} {xs xs' : List Value} (h : w.ownsRow B e sz v n xs) (h' : w.ownsRow B' e' sz' v' n' xs') (hne : e ≠ e') (b : Nat) (hb : v.ownBlock = some b) (hb' : v'.ownBlock = some b) : False := by
  rcases h.2 with ⟨rfl, _⟩ | ⟨g, cap, cur, rfl, _, hh, _⟩
  · cases hb
  rcases h'.2 with ⟨rfl, _⟩ | ⟨g', cap', cur', rfl, _, hh', _⟩
  · cases hb'
  obtain rfl : g = b := Option.some.inj hb
  obtain rfl : g' = g := Option.some.inj hb'
  rw [hh] at hh'
  simp only [Option.some.injEq, Obj.cells.injEq] at hh'
  exact hne hh'.2.1
theorem own_slice {w : World} {B sz n : Nat} {e : TypeId} {v : Value} {xs : List Value} (h : w.ownsRow B e sz v n xs) : ∃ a n c, v = .slice a n c := by
  rcases h.2 with ⟨rfl, _⟩ | ⟨g, cap, cur, rfl, _⟩
  · exact ⟨_, _, _, rfl⟩
  · exact ⟨_, _, _, rfl⟩
theorem vmCells_snoc (m : List Vm) (x : Vm) : vmCells (m ++ [x]) = vmCells m ++ [.string x.ship, x.val] := by simp [vmCells, Vm.row, Vm.cells]
/-- What a voyage tells, but its calls' place. -/
def Vm.strip (v : Vm) : ByteArray × List Cl := (v.ship, v.calls)
def CopP (w : World) (l : List Vm) (e : Ending) (w' : World) : Prop := ∃ v m, e = .returned v ∧ w'.ownsRow w.heap.size 32 2 v l.length (vmCells m) ∧ (∀ x ∈ m, w'.ownsRow w.heap.size 39 4 x.val x.calls.length (clCells x.calls)) ∧ m.map Vm.strip = l.map Vm.strip ∧ Below w.heap.size w w'
theorem copied_vs {w : World} {B : Nat} {v : Value} {m : List Vm} {n : Nat} (h : w.ownsRow B 32 2 v n (vmCells m)) (hv : ∀ x ∈ m, w.ownsRow B 39 4 x.val x.calls.length (clCells x.calls)) (hn : n = m.length) : VsAt w v m :=
  ⟨own_vms h hn, fun x hx => own_cls (hv x hx) rfl⟩
set_option maxHeartbeats 4000000 in
theorem copied_any (l : List Vm) (v : Value) (w : World) (hs : VsAt w v l) (hl : l.length ≤ 4000) (hc : ∀ x ∈ l, x.calls.length ≤ 4000) : Calls Tryd.prog 12 #[v] w (CopP w l) := by
  obtain ⟨i0, hi, hz, hsz, hby⟩ := info_parts infoVm
  have HI := Lib.hid (And.intro hi (And.intro hz (And.intro hsz hby)))
  clear hi hz hsz hby
  obtain ⟨i1, hi, hz, hsz, hby⟩ := info_parts infoCl
  have HIC := Lib.hid (And.intro hi (And.intro hz (And.intro hsz hby)))
  clear hi hz hsz hby
  obtain ⟨a, c, rfl⟩ : ∃ a c, v = .slice a l.length c := by simpa using hs.1.shape
  have HS := Lib.hid hs
  have HCC := Lib.hid hc
  clear hs hc
  go_enter Tryd.func12, Tryd.ntmps12
  go_wp2_with fail
  go_loopw [3, 4] (fun o i wr => ∃ (k : Nat) (v : Value) (m : List Vm), k ≤ l.length ∧ i = .int .i64 k ∧ o = v ∧ wr.ownsRow w.heap.size 32 2 v k (vmCells m) ∧ (∀ x ∈ m, wr.ownsRow w.heap.size 39 4 x.val x.calls.length (clCells x.calls)) ∧ m.map Vm.strip = (l.take k).map Vm.strip ∧ Below w.heap.size w wr) (fun _ i _ => l.length - (intOf i).toNat)
  case atStart => exact ⟨0, _, [], Nat.zero_le _, rfl, rfl, own_empty (Nat.le_refl _), fun _ h => (by cases h), rfl, one_below _ _⟩
  case round =>
    obtain ⟨k, v, m, hk, rfl, rfl, hown, hvo, hst, hbel⟩ := hrel
    have HVO := Lib.hid hvo
    have HST := Lib.hid hst
    have HBEL := Lib.hid hbel
    have HOWN := Lib.hid hown
    clear hown hvo hst
    by_cases hlt : k < l.length
    · obtain ⟨b, off, rfl, hb, e0, e1, hcs⟩ := vs_at HS.out hlt
      have hki : ((k : Nat) : Int) < (l.length : Int) := by omega
      have HKL := Lib.hid hlt
      have HTK : Hid ((l.take (k + 1)).map Vm.strip = (l.take k).map Vm.strip ++ [(l[k].ship, l[k].calls)]) := Lib.hid (by rw [List.take_succ_eq_append_getElem hlt, List.map_append]; rfl)
      have hcl := HCC.out _ (List.getElem_mem hlt)
      generalize l[k] = x at *
      obtain ⟨sh, cval, cs⟩ := x
      simp only at e0 e1 hcs HTK hcl
      obtain ⟨n, hn⟩ : ∃ n, n = cs.length := ⟨_, rfl⟩
      obtain ⟨ac, cc, rfl⟩ : ∃ a c, cval = .slice a n c := by rw [hn]; simpa using hcs.shape
      have HV : Hid (∀ W, Keep (fun b => u3.ownBlock = some b) wr W → W.cell? ⟨b, off + k * 2, none⟩ = some (.string sh) ∧ W.cell? ⟨b, off + k * 2 + 1, none⟩ = some (.slice ac n cc)) := Lib.hid (fun W hW => by
        have h1 := hW.behind HBEL.out HBEL.out.size (fun q hq e => by have := (HOWN.out.lt q e).1; omega)
        exact ⟨(h1.cell (p := ⟨b, off + k * 2, none⟩) hb).trans e0, (h1.cell (p := ⟨b, off + k * 2 + 1, none⟩) hb).trans e1⟩)
      have HSRC : Hid (∀ W, Keep (fun b => u3.ownBlock = some b) wr W → Src W 4 (.slice ac n cc) n (clCells cs)) := Lib.hid (fun W hW => by
        have h1 := hW.behind HBEL.out HBEL.out.size (fun q hq e => by have := (HOWN.out.lt q e).1; omega)
        have h2 := (hcs.below h1 (Nat.le_refl _)).src (cl_rows cs) (by decide)
        rw [List.length_map, ← clCells_flat, ← hn] at h2
        exact h2)
      have HCN : Hid (n = cs.length) := Lib.hid hn
      have HLC : Hid (0 + n ≤ maxLen ∧ (0 + n) * 40 ≤ 140737488355328) := Lib.hid (by simp only [maxLen]; omega)
      have HLV : Hid (k + 1 ≤ maxLen ∧ (k + 1) * 40 ≤ 140737488355328) := Lib.hid (by simp only [maxLen]; omega)
      clear hb e0 e1 hcs hbel hk hcl hn
      go_wp2_with fail
      refine Ord.region_lit (fun
        | 0 => Ord.val (u3)
        | 1 => Ord.val (.slice (some ⟨b, off, none⟩) l.length c)
        | 2 => Ord.val (.int .i64 (k : Int))
        | 3 => Ord.val (.pointer (some ⟨b, off + k * 2, none⟩))
        | 4 => Ord.val (.pointer (some ⟨b, off + k * 2, none⟩))
        | 5 => Ord.val (.string sh)
        | 6 => Ord.own w.heap.size 39 4 (0) ([]) []
        | 7 => Ord.val (.slice (some ⟨b, off, none⟩) l.length c)
        | 8 => Ord.val (.int .i64 (k : Int))
        | 9 => Ord.val (.pointer (some ⟨b, off + k * 2, none⟩))
        | 10 => Ord.val (.pointer (some ⟨b, off + k * 2 + 1, none⟩))
        | 11 => Ord.val (.slice ac n cc)
        | 12 => Ord.own w.heap.size 39 4 (0 + n) ([] ++ clCells cs) [6]
        | 13 => Ord.Spec.mk (fun _ v O W => ∃ s, v = .agg #[.string sh, s] ∧ W.ownsRow w.heap.size 39 4 s n (clCells cs) ∧ ∀ b, O b ↔ s.ownBlock = some b) [12] (fun _ => False)
        | 14 => Ord.Spec.mk (fun _ v O W => ∃ s g, v = .slice (some ⟨g, 0, none⟩) 1 1 ∧ W.heap[g]? = some (.cells #[.string sh, s] 32 (0, 0)) ∧ W.ownsRow w.heap.size 39 4 s n (clCells cs) ∧ ∀ b, O b ↔ (b = g ∨ s.ownBlock = some b)) [13] (fun _ => False)
        | 15 => Ord.Spec.mk (fun _ v O W => ∃ s, W.ownsRow w.heap.size 32 2 v (k + 1) (vmCells m ++ [.string sh, s]) ∧ W.ownsRow w.heap.size 39 4 s n (clCells cs) ∧ ∀ b, O b ↔ (v.ownBlock = some b ∨ s.ownBlock = some b)) [14] (fun b => u3.ownBlock = some b)
        | 16 => Ord.Spec.mk (fun _ v O W => ∃ s, W.ownsRow w.heap.size 32 2 v (k + 1) (vmCells m ++ [.string sh, s]) ∧ W.ownsRow w.heap.size 39 4 s n (clCells cs) ∧ ∀ b, O b ↔ (v.ownBlock = some b ∨ s.ownBlock = some b)) [15] (fun b => False)
        | _ => Ord.idle) (fun b => u3.ownBlock = some b) (by kernel_rfl) (by kernel_rfl) (by kernel_rfl) ?_ ?_ ?_ ?_
      · intro i _
        match i with
        | 0 => exact Ord.lasts_val _
        | 1 => exact Ord.lasts_val _
        | 2 => exact Ord.lasts_val _
        | 3 => exact Ord.lasts_val _
        | 4 => exact Ord.lasts_val _
        | 5 => exact Ord.lasts_val _
        | 6 => exact Ord.lasts_own _ _ _ _ _ _
        | 7 => exact Ord.lasts_val _
        | 8 => exact Ord.lasts_val _
        | 9 => exact Ord.lasts_val _
        | 10 => exact Ord.lasts_val _
        | 11 => exact Ord.lasts_val _
        | 12 => exact Ord.lasts_own _ _ _ _ _ _
        | 13 => exact ⟨fun _ v O W h b hb => by
      obtain ⟨s, h1, h2, h3⟩ := h
      exact (h2.lt b ((h3 b).1 hb)).2, fun _ v O W W' h _ _ _ hs => by
      obtain ⟨s, h1, h2, h3⟩ := h
      exact ⟨s, h1, Any.ownsRow_same h2 (fun b hb => hs b ((h3 b).2 hb)), h3⟩⟩
        | 14 => exact ⟨fun _ v O W h b hb => by
      obtain ⟨s, g, h1, h2, h3, h4⟩ := h
      rcases (h4 b).1 hb with rfl | h5
      · exact lt_blk h2
      · exact (h3.lt b h5).2, fun _ v O W W' h _ _ _ hs => by
      obtain ⟨s, g, h1, h2, h3, h4⟩ := h
      exact ⟨s, g, h1, (hs g ((h4 g).2 (.inl rfl))).trans h2, Any.ownsRow_same h3 (fun b hb => hs b ((h4 b).2 (.inr hb))), h4⟩⟩
        | 15 => exact ⟨fun _ v O W h b hb => by
      obtain ⟨s, h1, h2, h3⟩ := h
      rcases (h3 b).1 hb with h4 | h4
      · exact (h1.lt b h4).2
      · exact (h2.lt b h4).2, fun _ v O W W' h _ _ _ hs => by
      obtain ⟨s, h1, h2, h3⟩ := h
      exact ⟨s, Any.ownsRow_same h1 (fun b hb => hs b ((h3 b).2 (.inl hb))), Any.ownsRow_same h2 (fun b hb => hs b ((h3 b).2 (.inr hb))), h3⟩⟩
        | 16 => exact ⟨fun _ v O W h b hb => by
      obtain ⟨s, h1, h2, h3⟩ := h
      rcases (h3 b).1 hb with h4 | h4
      · exact (h1.lt b h4).2
      · exact (h2.lt b h4).2, fun _ v O W W' h _ _ _ hs => by
      obtain ⟨s, h1, h2, h3⟩ := h
      exact ⟨s, Any.ownsRow_same h1 (fun b hb => hs b ((h3 b).2 (.inl hb))), Any.ownsRow_same h2 (fun b hb => hs b ((h3 b).2 (.inr hb))), h3⟩⟩
        | n + 17 => exact Ord.lasts_idle
      · refine ⟨fun k b _ hh => ?_, fun k b _ hh => ?_, fun k k' b _ _ hne h1 h2 => ?_⟩
        · match k, hh with
          | 0, hh => exact hh.elim
          | 1, hh => exact hh.elim
          | 2, hh => exact hh.elim
          | 3, hh => exact hh.elim
          | 4, hh => exact hh.elim
          | 5, hh => exact hh.elim
          | 6, hh => exact hh.elim
          | 7, hh => exact hh.elim
          | 8, hh => exact hh.elim
          | 9, hh => exact hh.elim
          | 10, hh => exact hh.elim
          | 11, hh => exact hh.elim
          | 12, hh => exact hh.elim
          | 13, hh => exact hh.elim
          | 14, hh => exact hh.elim
          | 15, hh => exact hh
          | 16, hh => exact hh.elim
          | m + 17, hh => exact hh.elim
        · match k, hh with
          | 0, hh => exact hh.elim
          | 1, hh => exact hh.elim
          | 2, hh => exact hh.elim
          | 3, hh => exact hh.elim
          | 4, hh => exact hh.elim
          | 5, hh => exact hh.elim
          | 6, hh => exact hh.elim
          | 7, hh => exact hh.elim
          | 8, hh => exact hh.elim
          | 9, hh => exact hh.elim
          | 10, hh => exact hh.elim
          | 11, hh => exact hh.elim
          | 12, hh => exact hh.elim
          | 13, hh => exact hh.elim
          | 14, hh => exact hh.elim
          | 15, hh => exact (HOWN.out.lt b hh).2
          | 16, hh => exact hh.elim
          | m + 17, hh => exact hh.elim
        · have a : (k = 15 ∧ (fun b => u3.ownBlock = some b) b) := by
            match k, h1 with
            | 0, hh => exact hh.elim
            | 1, hh => exact hh.elim
            | 2, hh => exact hh.elim
            | 3, hh => exact hh.elim
            | 4, hh => exact hh.elim
            | 5, hh => exact hh.elim
            | 6, hh => exact hh.elim
            | 7, hh => exact hh.elim
            | 8, hh => exact hh.elim
            | 9, hh => exact hh.elim
            | 10, hh => exact hh.elim
            | 11, hh => exact hh.elim
            | 12, hh => exact hh.elim
            | 13, hh => exact hh.elim
            | 14, hh => exact hh.elim
            | 15, hh => exact ⟨rfl, hh⟩
            | 16, hh => exact hh.elim
            | m + 17, hh => exact hh.elim
          have a' : (k' = 15 ∧ (fun b => u3.ownBlock = some b) b) := by
            match k', h2 with
            | 0, hh => exact hh.elim
            | 1, hh => exact hh.elim
            | 2, hh => exact hh.elim
            | 3, hh => exact hh.elim
            | 4, hh => exact hh.elim
            | 5, hh => exact hh.elim
            | 6, hh => exact hh.elim
            | 7, hh => exact hh.elim
            | 8, hh => exact hh.elim
            | 9, hh => exact hh.elim
            | 10, hh => exact hh.elim
            | 11, hh => exact hh.elim
            | 12, hh => exact hh.elim
            | 13, hh => exact hh.elim
            | 14, hh => exact hh.elim
            | 15, hh => exact ⟨rfl, hh⟩
            | 16, hh => exact hh.elim
            | m + 17, hh => exact hh.elim
          rcases a with ⟨rfl, a⟩ <;> rcases a' with ⟨rfl, a'⟩
          all_goals first | exact absurd rfl hne | (exact hne rfl)
      · refine ⟨?_, ?_, ?_, ?_, ?_, ?_, ?_, ?_, ?_, ?_, ?_, ?_, ?_, ?_, ?_, ?_, ?_, trivial⟩
        · refine Ord.owes_plain rfl fun ρ Os wo hs' hb hc' => ?_
          have h3 : ρ (.tmp 3) = u3 := hs'.old' 3 (by kernel_rfl)
          exact Any.ok_move (Ord.post_val rfl h3)
        · refine Ord.owes_plain rfl fun ρ Os wo hs' hb hc' => ?_
          have h0 : ρ (.tmp 0) = .slice (some ⟨b, off, none⟩) l.length c := hs'.old' 0 (by kernel_rfl)
          exact Any.ok_move (Ord.post_val rfl h0)
        · refine Ord.owes_plain rfl fun ρ Os wo hs' hb hc' => ?_
          have h4 : ρ (.tmp 4) = .int .i64 (k : Int) := hs'.old' 4 (by kernel_rfl)
          exact Any.ok_move (Ord.post_val rfl h4)
        · refine Ord.owes_plain rfl fun ρ Os wo hs' hb hc' => ?_
          have h13 : ρ (.tmp 13) = .slice (some ⟨b, off, none⟩) l.length c := hs'.val' 13 1 (by kernel_rfl) rfl
          have h14 : ρ (.tmp 14) = .int .i64 (k : Int) := hs'.val' 14 2 (by kernel_rfl) rfl
          go_simp
          exact Ord.post_val rfl rfl
        · refine Ord.owes_plain rfl fun ρ Os wo hs' hb hc' => ?_
          have h15 : ρ (.tmp 15) = .pointer (some ⟨b, off + k * 2, none⟩) := hs'.val' 15 3 (by kernel_rfl) rfl
          go_simp
          exact Ord.post_val rfl rfl
        · refine Ord.owes_plain rfl fun ρ Os wo hs' hb hc' => ?_
          have h16 : ρ (.tmp 16) = .pointer (some ⟨b, off + k * 2, none⟩) := hs'.val' 16 4 (by kernel_rfl) rfl
          have c0 := (HV.out wo hb.undrew).1
          go_simp
          exact Ord.post_val rfl rfl
        · refine Ord.owes_plain rfl fun ρ Os wo hs' hb hc' => ?_
          go_simp
          exact Ord.post_own0 (Nat.le_trans HBEL.out.size (show wr.heap.size ≤ wo.heap.size from hb.size)) rfl
        · refine Ord.owes_plain rfl fun ρ Os wo hs' hb hc' => ?_
          have h0 : ρ (.tmp 0) = .slice (some ⟨b, off, none⟩) l.length c := hs'.old' 0 (by kernel_rfl)
          exact Any.ok_move (Ord.post_val rfl h0)
        · refine Ord.owes_plain rfl fun ρ Os wo hs' hb hc' => ?_
          have h4 : ρ (.tmp 4) = .int .i64 (k : Int) := hs'.old' 4 (by kernel_rfl)
          exact Any.ok_move (Ord.post_val rfl h4)
        · refine Ord.owes_plain rfl fun ρ Os wo hs' hb hc' => ?_
          have h19 : ρ (.tmp 19) = .slice (some ⟨b, off, none⟩) l.length c := hs'.val' 19 7 (by kernel_rfl) rfl
          have h20 : ρ (.tmp 20) = .int .i64 (k : Int) := hs'.val' 20 8 (by kernel_rfl) rfl
          go_simp
          exact Ord.post_val rfl rfl
        · refine Ord.owes_plain rfl fun ρ Os wo hs' hb hc' => ?_
          have h21 : ρ (.tmp 21) = .pointer (some ⟨b, off + k * 2, none⟩) := hs'.val' 21 9 (by kernel_rfl) rfl
          go_simp
          exact Ord.post_val rfl rfl
        · refine Ord.owes_plain rfl fun ρ Os wo hs' hb hc' => ?_
          have h22 : ρ (.tmp 22) = .pointer (some ⟨b, off + k * 2 + 1, none⟩) := hs'.val' 22 10 (by kernel_rfl) rfl
          have c0 := (HV.out wo hb.undrew).2
          go_simp
          exact Ord.post_val rfl rfl
        · refine Ord.owes_plain rfl fun ρ Os wo hs' hb hc' => ?_
          have h23 : ρ (.tmp 23) = .slice ac n cc := hs'.val' 23 11 (by kernel_rfl) rfl
          exact Ord.ok_own_append Tryd.underlying30 HIC.out.1 HIC.out.2.1 HIC.out.2.2.1 HIC.out.2.2.2 rfl (by decide) (hs'.new' 18 6 (by kernel_rfl)) (by rw [h23]; exact HSRC.out wo hb.undrew) (clCells_one cs) HLC.out.1 HLC.out.2 (Nat.le_trans HBEL.out.size (show wr.heap.size ≤ wo.heap.size from hb.size)) List.mem_cons_self rfl
        · refine Ord.owes_plain rfl fun ρ Os wo hs' hb hc' => ?_
          have h17 : ρ (.tmp 17) = .string sh := hs'.val' 17 5 (by kernel_rfl) rfl
          obtain ⟨-, hr1, hr2⟩ := hs'.new' 24 12 (by kernel_rfl)
          rw [Nat.zero_add, List.nil_append] at hr1
          obtain ⟨a7, n7, c7, hv⟩ := own_slice hr1
          rw [hv] at hr1 hr2
          go_simp
          exact ⟨fun b => (Value.slice a7 n7 c7).ownBlock = some b, ⟨_, rfl, hr1, fun _ => Iff.rfl⟩, ⟨rfl, rfl, rfl⟩, Nat.le_refl _, fun _ _ _ _ => rfl, fun b hb => .inl ⟨12, List.mem_cons_self, (hr2 b).2 hb⟩⟩
        · refine Ord.owes_plain rfl fun ρ Os wo hs' hb hc' => ?_
          obtain ⟨-, s, hv, hr1, hr2⟩ := hs'.new' 25 13 (by kernel_rfl)
          go_simp
          exact ⟨fun b => b = wo.heap.size ∨ s.ownBlock = some b, ⟨s, wo.heap.size, rfl, heap_alloc_new _ _, ownsRow_below hr1 (one_below _ _), fun _ => Iff.rfl⟩, ⟨rfl, rfl, rfl⟩, by simp, fun b hlt _ _ => (one_below wo _).block b hlt, fun b hb => by
            rcases hb with rfl | hb
            · exact .inr (.inl (Nat.le_refl _))
            · exact .inl ⟨13, List.mem_cons_self, (hr2 b).2 hb⟩⟩
        · refine Ord.owes_plain rfl fun ρ Os wo hs' hb hc' => ?_
          have h12 : ρ (.tmp 12) = u3 := hs'.val' 12 0 (by kernel_rfl) rfl
          obtain ⟨-, s, g, hv, hg, hr1, hr2⟩ := hs'.new' 26 14 (by kernel_rfl)
          have hrow : wo.ownsRow w.heap.size 32 2 (u3) k (vmCells m) := Any.ownsRow_same HOWN.out (fun b hb => hs'.here b hb)
          have hne := rows_ne hr1 hrow (by decide)
          have hsrc : Src wo 2 (ρ (.tmp 26)) 1 [.string sh, s] := by rw [hv]; exact src_block hg rfl
          rw [← h12] at hrow hne
          refine Any.ok_append_own Tryd.underlying22 HI.out.1 HI.out.2.1 HI.out.2.2.1 HI.out.2.2.2 rfl (by decide) hrow hsrc (by
            obtain ⟨a7, n7, c7, hv7⟩ := own_slice hr1
            rw [hv7]
            exact vm_one _ _ _ _) HLV.out.1 HLV.out.2 (Nat.le_trans HBEL.out.size (show wr.heap.size ≤ wo.heap.size from hb.size)) fun v' w' h1 h2 h3 => ?_
          refine ⟨fun b => v'.ownBlock = some b ∨ s.ownBlock = some b, ⟨s, h1, Any.ownsRow_same hr1 (fun b hb => h2.block b (hr1.lt b hb).2 (fun e => hne b hb e.symm)), fun _ => Iff.rfl⟩, ⟨h2.os, h2.tape, h2.output⟩, h2.size, fun b hlt _ hn => h2.block b hlt (fun e => hn (by rw [h12] at e; exact e.symm)), fun b hb => ?_⟩
          rcases hb with hb | hb
          · rcases h3 b hb with h4 | h4
            · exact .inr (.inr (by rw [h12] at h4; exact h4))
            · exact .inr (.inl h4)
          · exact .inl ⟨14, List.mem_cons_self, (hr2 b).2 (.inr hb)⟩
        · refine Ord.owes_plain rfl fun ρ Os wo hs' hb hc' => ?_
          obtain ⟨-, s, h1, h2, h3⟩ := hs'.new' 27 15 (by kernel_rfl)
          exact Any.ok_assign ⟨fun b => (ρ (.tmp 27)).ownBlock = some b ∨ s.ownBlock = some b, ⟨s, h1, h2, fun _ => Iff.rfl⟩, ⟨rfl, rfl, rfl⟩, Nat.le_refl _, fun _ _ _ _ => rfl, fun b hb => .inl ⟨15, List.mem_cons_self, (h3 b).2 hb⟩⟩
      · intro vals Os ρs w6 hk hkn hln hap hbd
        obtain ⟨s, k1, k2, k3⟩ := hkn 16 (by kernel_rfl)
        have HK := Lib.hid hk
        have K1 := Lib.hid k1
        have K2 := Lib.hid k2
        clear hkn hln hap hbd hk k1 k2 k3
        simp only [Any.putAll]
        go_frame
        generalize vals 16 = v6 at *
        go_wp2_with fail
        go_roundw
        case rel =>
          refine ⟨k + 1, v6, m ++ [⟨sh, s, cs⟩], HKL.out, by go_num, rfl, ?_, ?_, ?_, HK.out.behind HBEL.out HBEL.out.size (fun q hq e => by have := (HOWN.out.lt q e).1; omega)⟩
          · rw [vmCells_snoc]; exact K1.out
          · intro x hx
            rcases List.mem_append.1 hx with h | h
            · exact ownsRow_keep (HVO.out x h) HK.out (fun b hb e => rows_ne (HVO.out x h) HOWN.out (by decide) b hb e)
            · obtain rfl := List.mem_singleton.1 h
              have h2 := K2.out
              rw [HCN.out] at h2
              exact h2
          · rw [List.map_append, HST.out, HTK.out]; rfl
        case measure => have := HKL.out; (simp [intOf]) <;> omega
    · have hkl : k = l.length := by omega
      have HTK : Hid ((l.take k).map Vm.strip = l.map Vm.strip) := Lib.hid (by rw [List.take_of_length_le (by omega)])
      have HKL := Lib.hid hkl
      clear hkl hk hbel
      go_wp2_with fail
      go_ret
      exact ⟨_, m, rfl, by rw [← HKL.out]; exact HOWN.out, HVO.out, HST.out.trans HTK.out, HBEL.out⟩
end Go.Proofs.YtbmjficiceiekaaDoor.Sc
