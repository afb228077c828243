/- The same boxes: by the reference. Boxes of one's own read as boxes. -/
import Derived.Test.YtgnfdplphpejaaaGreatDoorRefGo12
import Derived.Test.YtgnfdplphpejaaaGreatDoorPack12
namespace Go.Proofs.YtgnfdplphpejaaaGreatDoor.Sc
open Go Go.RowKit Go.ChangeShapes Go.WideShapes Go.ChangeAt
set_option maxRecDepth 100000

theorem own_boxes {w : World} {v : Value} {R : List Bv} {B : Nat} (h : BsAt w v R B) : BoxesAt w v R := by
  refine ⟨?_, fun x hx => own_lots (h.lots x hx) rfl⟩
  have he : (R.map Bv.cells).flatten = bvCells R := by rw [bvCells, List.flatMap_def]
  refine own_sl (xs := R.map Bv.cells) (by rw [he]; exact h.own) (by rw [List.length_map]) fun r hr => ?_
  obtain ⟨x, -, rfl⟩ := List.mem_map.1 hr
  rfl
set_option maxHeartbeats 8000000 in
theorem refSameB_any (l m : List Bv) (hlm : l.map Bv.b = m.map Bv.b) (va vb : Value) (w : World) (ha : BoxesAt w va l) (hb : BoxesAt w vb m) :
    Calls Tryz.prog 14 #[va, vb] w (RetB w true) := by
  have hle : m.length = l.length := by have := congrArg List.length hlm; simpa using this.symm
  obtain ⟨a, c, rfl⟩ : ∃ a c, va = .slice a l.length c := by simpa using ha.1.shape
  obtain ⟨a', c', rfl⟩ : ∃ a c, vb = .slice a m.length c := by simpa using hb.1.shape
  have hll : l.length ≤ 9223372036854775807 := by have := ha.1.len_le; simp only [List.length_map, maxLen] at this; omega
  have HAT : Hid (∀ n (h : n < l.length) (h' : n < m.length), l[n].b = m[n].b) := Lib.hid (fun n h h' => by
    have h1 : (l.map Bv.b)[n]? = (m.map Bv.b)[n]? := by rw [hlm]
    simpa [h, h'] using h1)
  have HA := Lib.hid (fun W (hW : Below w.heap.size w W) => ha.below hW)
  have HB := Lib.hid (fun W (hW : Below w.heap.size w W) => hb.below hW)
  have HLE := Lib.hid hle
  rw [hle]
  clear ha hb hlm hle
  have t0 : ((l.length : Int) != (l.length : Int)) = false := by simp
  go_enter Tryz.func14, Tryz.ntmps14
  go_wp2_with fail
  clear t0
  go_loopw [5] (fun i wr => ∃ n : Nat, n ≤ l.length ∧ i = .int .i64 n ∧ Below w.heap.size w wr) (fun i _ => l.length - (intOf i).toNat)
  case atStart => exact ⟨0, Nat.zero_le _, rfl, Below.refl _ _⟩
  case round =>
    obtain ⟨n, hn, rfl, hbel⟩ := hrel
    have HBEL := Lib.hid hbel
    by_cases hlt : n < l.length
    rotate_left
    · clear hbel
      go_wp2_with fail
      go_ret
      exact ⟨rfl, HBEL.out⟩
    · have hlt' : n < m.length := by have := HLE.out; omega
      obtain ⟨b, off, rfl, -, -, -⟩ := (HA.out wr hbel).1.at (i := n) (by simpa using hlt)
      have hB1 := (HB.out wr hbel).1
      rw [HLE.out] at hB1
      obtain ⟨b', off', rfl, -, -, -⟩ := hB1.at (i := n) (by simpa using hlt')
      have hCA : ∀ W, Below w.heap.size w W → (W.cell? ⟨b, off + n * 3, none⟩ = some (.string l[n].b.mark) ∧ W.cell? ⟨b, off + n * 3 + 1, none⟩ = some (.int .i64 l[n].b.kind) ∧ W.cell? ⟨b, off + n * 3 + 2, none⟩ = some l[n].v) ∧ Sl W 2 l[n].v (l[n].b.lots.map Lt.row) := fun W hW => by
        obtain ⟨b1, o1, he, -, -, hc⟩ := (HA.out W hW).1.at (i := n) (by simpa using hlt)
        simp only [Option.some.injEq, Addr.mk.injEq, and_true] at he
        obtain ⟨rfl, rfl⟩ := he
        exact ⟨⟨hc n l[n].cells (by simp [hlt]) 0 _ rfl, hc n l[n].cells (by simp [hlt]) 1 _ rfl, hc n l[n].cells (by simp [hlt]) 2 _ rfl⟩, (HA.out W hW).2 _ (List.getElem_mem hlt)⟩
      have hCB : ∀ W, Below w.heap.size w W → (W.cell? ⟨b', off' + n * 3, none⟩ = some (.string l[n].b.mark) ∧ W.cell? ⟨b', off' + n * 3 + 1, none⟩ = some (.int .i64 l[n].b.kind) ∧ W.cell? ⟨b', off' + n * 3 + 2, none⟩ = some m[n].v) ∧ Sl W 2 m[n].v (l[n].b.lots.map Lt.row) := fun W hW => by
        have h1 := (HB.out W hW).1
        rw [HLE.out] at h1
        obtain ⟨b1, o1, he, -, -, hc⟩ := h1.at (i := n) (by simpa using hlt')
        simp only [Option.some.injEq, Addr.mk.injEq, and_true] at he
        obtain ⟨rfl, rfl⟩ := he
        rw [HAT.out n hlt hlt']
        exact ⟨⟨hc n m[n].cells (by simp [hlt']) 0 _ rfl, hc n m[n].cells (by simp [hlt']) 1 _ rfl, hc n m[n].cells (by simp [hlt']) 2 _ rfl⟩, (HB.out W hW).2 _ (List.getElem_mem hlt')⟩
      obtain ⟨aL, cL, hL⟩ := (hCA wr hbel).2.shape
      obtain ⟨aR, cR, hR⟩ := (hCB wr hbel).2.shape
      rw [List.length_map] at hL hR
      rw [hL] at hCA
      rw [hR] at hCB
      generalize l[n].b = x at *
      obtain ⟨m, k, L⟩ := x
      simp only at hCA hCB
      have HCA := Lib.hid (fun W hW => (hCA W hW).1)
      have HCB := Lib.hid (fun W hW => (hCB W hW).1)
      have HSA : Hid (∀ W, Below w.heap.size w W → Calls Tryz.prog 15 #[.slice aL L.length cL, .slice aR L.length cR] W (RetB W true)) := Lib.hid (fun W hW => by
        have := refSameL_any L L _ _ W (hCA W hW).2 (hCB W hW).2
        rwa [decide_eq_true rfl] at this)
      have t1 : (m.toList == m.toList) = true := by simp
      have t2 : (k != k) = false := by simp
      have tn : ((n : Nat) : Int) < (l.length : Int) := by omega
      clear hCA hCB hL hR hbel hB1 hn
      go_wp2_with fail
      refine Any.region_lit (fun
        | 0 => Any.val (.slice (some ⟨b, off, none⟩) l.length c)
        | 1 => Any.val (.int .i64 (n : Int))
        | 2 => Any.val (.pointer (some ⟨b, off + n * 3, none⟩))
        | 3 => Any.val (.pointer (some ⟨b, off + n * 3, none⟩))
        | 4 => Any.val (.string m)
        | 5 => Any.val (.slice (some ⟨b', off', none⟩) l.length c')
        | 6 => Any.val (.int .i64 (n : Int))
        | 7 => Any.val (.pointer (some ⟨b', off' + n * 3, none⟩))
        | 8 => Any.val (.pointer (some ⟨b', off' + n * 3, none⟩))
        | 9 => Any.val (.string m)
        | 10 => Any.val (.bool false)
        | 11 => Any.val (.bool false)
        | 12 => Any.val (.slice (some ⟨b, off, none⟩) l.length c)
        | 13 => Any.val (.int .i64 (n : Int))
        | 14 => Any.val (.pointer (some ⟨b, off + n * 3, none⟩))
        | 15 => Any.val (.pointer (some ⟨b, off + n * 3 + 1, none⟩))
        | 16 => Any.val (.int .i64 k)
        | 17 => Any.val (.slice (some ⟨b', off', none⟩) l.length c')
        | 18 => Any.val (.int .i64 (n : Int))
        | 19 => Any.val (.pointer (some ⟨b', off' + n * 3, none⟩))
        | 20 => Any.val (.pointer (some ⟨b', off' + n * 3 + 1, none⟩))
        | 21 => Any.val (.int .i64 k)
        | 22 => Any.val (.bool false)
        | 23 => Any.val (.bool false)
        | 24 => Any.val (.bool false)
        | 25 => Any.val (.slice (some ⟨b, off, none⟩) l.length c)
        | 26 => Any.val (.int .i64 (n : Int))
        | 27 => Any.val (.pointer (some ⟨b, off + n * 3, none⟩))
        | 28 => Any.val (.pointer (some ⟨b, off + n * 3 + 2, none⟩))
        | 29 => Any.val (.slice aL L.length cL)
        | 30 => Any.val (.slice (some ⟨b', off', none⟩) l.length c')
        | 31 => Any.val (.int .i64 (n : Int))
        | 32 => Any.val (.pointer (some ⟨b', off' + n * 3, none⟩))
        | 33 => Any.val (.pointer (some ⟨b', off' + n * 3 + 2, none⟩))
        | 34 => Any.val (.slice aR L.length cR)
        | 35 => Any.val (.bool true)
        | 36 => Any.val (.bool false)
        | 37 => Any.val (.bool false)
        | _ => Any.idle) (by kernel_rfl) (by kernel_rfl) (by kernel_rfl) ?_ ?_ ?_
      · intro i _
        match i with
        | 0 => exact Any.lasts_val _
        | 1 => exact Any.lasts_val _
        | 2 => exact Any.lasts_val _
        | 3 => exact Any.lasts_val _
        | 4 => exact Any.lasts_val _
        | 5 => exact Any.lasts_val _
        | 6 => exact Any.lasts_val _
        | 7 => exact Any.lasts_val _
        | 8 => exact Any.lasts_val _
        | 9 => exact Any.lasts_val _
        | 10 => exact Any.lasts_val _
        | 11 => exact Any.lasts_val _
        | 12 => exact Any.lasts_val _
        | 13 => exact Any.lasts_val _
        | 14 => exact Any.lasts_val _
        | 15 => exact Any.lasts_val _
        | 16 => exact Any.lasts_val _
        | 17 => exact Any.lasts_val _
        | 18 => exact Any.lasts_val _
        | 19 => exact Any.lasts_val _
        | 20 => exact Any.lasts_val _
        | 21 => exact Any.lasts_val _
        | 22 => exact Any.lasts_val _
        | 23 => exact Any.lasts_val _
        | 24 => exact Any.lasts_val _
        | 25 => exact Any.lasts_val _
        | 26 => exact Any.lasts_val _
        | 27 => exact Any.lasts_val _
        | 28 => exact Any.lasts_val _
        | 29 => exact Any.lasts_val _
        | 30 => exact Any.lasts_val _
        | 31 => exact Any.lasts_val _
        | 32 => exact Any.lasts_val _
        | 33 => exact Any.lasts_val _
        | 34 => exact Any.lasts_val _
        | 35 => exact Any.lasts_val _
        | 36 => exact Any.lasts_val _
        | 37 => exact Any.lasts_val _
        | n + 38 => exact Any.lasts_idle
      · refine ⟨?_, ?_, ?_, ?_, ?_, ?_, ?_, ?_, ?_, ?_, ?_, ?_, ?_, ?_, ?_, ?_, ?_, ?_, ?_, ?_, ?_, ?_, ?_, ?_, ?_, ?_, ?_, ?_, ?_, ?_, ?_, ?_, ?_, ?_, ?_, ?_, ?_, ?_, trivial⟩
        · refine Any.owes_plain rfl fun ρ wo hs' hb hc' => ?_
          have h0 : ρ (.tmp 0) = .slice (some ⟨b, off, none⟩) l.length c := hs'.old' 0 (by kernel_rfl)
          exact Any.ok_move (Any.post_val hb rfl h0)
        · refine Any.owes_plain rfl fun ρ wo hs' hb hc' => ?_
          have h5 : ρ (.tmp 5) = .int .i64 (n : Int) := hs'.old' 5 (by kernel_rfl)
          exact Any.ok_move (Any.post_val hb rfl h5)
        · refine Any.owes_plain rfl fun ρ wo hs' hb hc' => ?_
          have h17 : ρ (.tmp 17) = .slice (some ⟨b, off, none⟩) l.length c := hs'.new' 17 0 (by kernel_rfl)
          have h18 : ρ (.tmp 18) = .int .i64 (n : Int) := hs'.new' 18 1 (by kernel_rfl)
          go_simp
          exact Any.post_val hb rfl rfl
        · refine Any.owes_plain rfl fun ρ wo hs' hb hc' => ?_
          have h19 : ρ (.tmp 19) = .pointer (some ⟨b, off + n * 3, none⟩) := hs'.new' 19 2 (by kernel_rfl)
          go_simp
          exact Any.post_val hb rfl rfl
        · refine Any.owes_plain rfl fun ρ wo hs' hb hc' => ?_
          have h20 : ρ (.tmp 20) = .pointer (some ⟨b, off + n * 3, none⟩) := hs'.new' 20 3 (by kernel_rfl)
          have c0 : wo.cell? ⟨b, off + n * 3, none⟩ = some (.string m) := (HCA.out wo (HBEL.out.trans ((below_undrew hb).mono HBEL.out.size))).1
          go_simp
          exact Any.post_val hb rfl rfl
        · refine Any.owes_plain rfl fun ρ wo hs' hb hc' => ?_
          have h1 : ρ (.tmp 1) = .slice (some ⟨b', off', none⟩) l.length c' := hs'.old' 1 (by kernel_rfl)
          exact Any.ok_move (Any.post_val hb rfl h1)
        · refine Any.owes_plain rfl fun ρ wo hs' hb hc' => ?_
          have h5 : ρ (.tmp 5) = .int .i64 (n : Int) := hs'.old' 5 (by kernel_rfl)
          exact Any.ok_move (Any.post_val hb rfl h5)
        · refine Any.owes_plain rfl fun ρ wo hs' hb hc' => ?_
          have h22 : ρ (.tmp 22) = .slice (some ⟨b', off', none⟩) l.length c' := hs'.new' 22 5 (by kernel_rfl)
          have h23 : ρ (.tmp 23) = .int .i64 (n : Int) := hs'.new' 23 6 (by kernel_rfl)
          go_simp
          exact Any.post_val hb rfl rfl
        · refine Any.owes_plain rfl fun ρ wo hs' hb hc' => ?_
          have h24 : ρ (.tmp 24) = .pointer (some ⟨b', off' + n * 3, none⟩) := hs'.new' 24 7 (by kernel_rfl)
          go_simp
          exact Any.post_val hb rfl rfl
        · refine Any.owes_plain rfl fun ρ wo hs' hb hc' => ?_
          have h25 : ρ (.tmp 25) = .pointer (some ⟨b', off' + n * 3, none⟩) := hs'.new' 25 8 (by kernel_rfl)
          have c0 : wo.cell? ⟨b', off' + n * 3, none⟩ = some (.string m) := (HCB.out wo (HBEL.out.trans ((below_undrew hb).mono HBEL.out.size))).1
          go_simp
          exact Any.post_val hb rfl rfl
        · refine Any.owes_plain rfl fun ρ wo hs' hb hc' => ?_
          have h21 : ρ (.tmp 21) = .string m := hs'.new' 21 4 (by kernel_rfl)
          have h26 : ρ (.tmp 26) = .string m := hs'.new' 26 9 (by kernel_rfl)
          go_simp
          exact Any.post_val hb rfl rfl
        · refine Any.owes_plain rfl fun ρ wo hs' hb hc' => ?_
          have h27 : ρ (.tmp 27) = .bool false := hs'.new' 27 10 (by kernel_rfl)
          go_simp
          exact Any.post_val hb rfl rfl
        · refine Any.owes_on rfl rfl (by kernel_rfl) rfl fun ρ wo hs' hb hc' => ?_
          have h0 : ρ (.tmp 0) = .slice (some ⟨b, off, none⟩) l.length c := hs'.old' 0 (by kernel_rfl)
          exact Any.ok_move (Any.post_val hb rfl h0)
        · refine Any.owes_on rfl rfl (by kernel_rfl) rfl fun ρ wo hs' hb hc' => ?_
          have h5 : ρ (.tmp 5) = .int .i64 (n : Int) := hs'.old' 5 (by kernel_rfl)
          exact Any.ok_move (Any.post_val hb rfl h5)
        · refine Any.owes_on rfl rfl (by kernel_rfl) rfl fun ρ wo hs' hb hc' => ?_
          have h29 : ρ (.tmp 29) = .slice (some ⟨b, off, none⟩) l.length c := hs'.new' 29 12 (by kernel_rfl)
          have h30 : ρ (.tmp 30) = .int .i64 (n : Int) := hs'.new' 30 13 (by kernel_rfl)
          go_simp
          exact Any.post_val hb rfl rfl
        · refine Any.owes_on rfl rfl (by kernel_rfl) rfl fun ρ wo hs' hb hc' => ?_
          have h31 : ρ (.tmp 31) = .pointer (some ⟨b, off + n * 3, none⟩) := hs'.new' 31 14 (by kernel_rfl)
          go_simp
          exact Any.post_val hb rfl rfl
        · refine Any.owes_on rfl rfl (by kernel_rfl) rfl fun ρ wo hs' hb hc' => ?_
          have h32 : ρ (.tmp 32) = .pointer (some ⟨b, off + n * 3 + 1, none⟩) := hs'.new' 32 15 (by kernel_rfl)
          have c0 : wo.cell? ⟨b, off + n * 3 + 1, none⟩ = some (.int .i64 k) := (HCA.out wo (HBEL.out.trans ((below_undrew hb).mono HBEL.out.size))).2.1
          go_simp
          exact Any.post_val hb rfl rfl
        · refine Any.owes_on rfl rfl (by kernel_rfl) rfl fun ρ wo hs' hb hc' => ?_
          have h1 : ρ (.tmp 1) = .slice (some ⟨b', off', none⟩) l.length c' := hs'.old' 1 (by kernel_rfl)
          exact Any.ok_move (Any.post_val hb rfl h1)
        · refine Any.owes_on rfl rfl (by kernel_rfl) rfl fun ρ wo hs' hb hc' => ?_
          have h5 : ρ (.tmp 5) = .int .i64 (n : Int) := hs'.old' 5 (by kernel_rfl)
          exact Any.ok_move (Any.post_val hb rfl h5)
        · refine Any.owes_on rfl rfl (by kernel_rfl) rfl fun ρ wo hs' hb hc' => ?_
          have h34 : ρ (.tmp 34) = .slice (some ⟨b', off', none⟩) l.length c' := hs'.new' 34 17 (by kernel_rfl)
          have h35 : ρ (.tmp 35) = .int .i64 (n : Int) := hs'.new' 35 18 (by kernel_rfl)
          go_simp
          exact Any.post_val hb rfl rfl
        · refine Any.owes_on rfl rfl (by kernel_rfl) rfl fun ρ wo hs' hb hc' => ?_
          have h36 : ρ (.tmp 36) = .pointer (some ⟨b', off' + n * 3, none⟩) := hs'.new' 36 19 (by kernel_rfl)
          go_simp
          exact Any.post_val hb rfl rfl
        · refine Any.owes_on rfl rfl (by kernel_rfl) rfl fun ρ wo hs' hb hc' => ?_
          have h37 : ρ (.tmp 37) = .pointer (some ⟨b', off' + n * 3 + 1, none⟩) := hs'.new' 37 20 (by kernel_rfl)
          have c0 : wo.cell? ⟨b', off' + n * 3 + 1, none⟩ = some (.int .i64 k) := (HCB.out wo (HBEL.out.trans ((below_undrew hb).mono HBEL.out.size))).2.1
          go_simp
          exact Any.post_val hb rfl rfl
        · refine Any.owes_on rfl rfl (by kernel_rfl) rfl fun ρ wo hs' hb hc' => ?_
          have h33 : ρ (.tmp 33) = .int .i64 k := hs'.new' 33 16 (by kernel_rfl)
          have h38 : ρ (.tmp 38) = .int .i64 k := hs'.new' 38 21 (by kernel_rfl)
          go_simp
          exact Any.post_val hb rfl rfl
        · refine Any.owes_plain rfl fun ρ wo hs' hb hc' => ?_
          have h28 : ρ (.tmp 28) = .bool false := hs'.new' 28 11 (by kernel_rfl)
          have h39 : ρ (.tmp 39) = .bool false := hs'.new' 39 22 (by kernel_rfl)
          go_simp
          exact Any.post_val hb rfl rfl
        · refine Any.owes_plain rfl fun ρ wo hs' hb hc' => ?_
          have h40 : ρ (.tmp 40) = .bool false := hs'.new' 40 23 (by kernel_rfl)
          go_simp
          exact Any.post_val hb rfl rfl
        · refine Any.owes_on rfl rfl (by kernel_rfl) rfl fun ρ wo hs' hb hc' => ?_
          have h0 : ρ (.tmp 0) = .slice (some ⟨b, off, none⟩) l.length c := hs'.old' 0 (by kernel_rfl)
          exact Any.ok_move (Any.post_val hb rfl h0)
        · refine Any.owes_on rfl rfl (by kernel_rfl) rfl fun ρ wo hs' hb hc' => ?_
          have h5 : ρ (.tmp 5) = .int .i64 (n : Int) := hs'.old' 5 (by kernel_rfl)
          exact Any.ok_move (Any.post_val hb rfl h5)
        · refine Any.owes_on rfl rfl (by kernel_rfl) rfl fun ρ wo hs' hb hc' => ?_
          have h42 : ρ (.tmp 42) = .slice (some ⟨b, off, none⟩) l.length c := hs'.new' 42 25 (by kernel_rfl)
          have h43 : ρ (.tmp 43) = .int .i64 (n : Int) := hs'.new' 43 26 (by kernel_rfl)
          go_simp
          exact Any.post_val hb rfl rfl
        · refine Any.owes_on rfl rfl (by kernel_rfl) rfl fun ρ wo hs' hb hc' => ?_
          have h44 : ρ (.tmp 44) = .pointer (some ⟨b, off + n * 3, none⟩) := hs'.new' 44 27 (by kernel_rfl)
          go_simp
          exact Any.post_val hb rfl rfl
        · refine Any.owes_on rfl rfl (by kernel_rfl) rfl fun ρ wo hs' hb hc' => ?_
          have h45 : ρ (.tmp 45) = .pointer (some ⟨b, off + n * 3 + 2, none⟩) := hs'.new' 45 28 (by kernel_rfl)
          have c0 : wo.cell? ⟨b, off + n * 3 + 2, none⟩ = some (.slice aL L.length cL) := (HCA.out wo (HBEL.out.trans ((below_undrew hb).mono HBEL.out.size))).2.2
          go_simp
          exact Any.post_val hb rfl rfl
        · refine Any.owes_on rfl rfl (by kernel_rfl) rfl fun ρ wo hs' hb hc' => ?_
          have h1 : ρ (.tmp 1) = .slice (some ⟨b', off', none⟩) l.length c' := hs'.old' 1 (by kernel_rfl)
          exact Any.ok_move (Any.post_val hb rfl h1)
        · refine Any.owes_on rfl rfl (by kernel_rfl) rfl fun ρ wo hs' hb hc' => ?_
          have h5 : ρ (.tmp 5) = .int .i64 (n : Int) := hs'.old' 5 (by kernel_rfl)
          exact Any.ok_move (Any.post_val hb rfl h5)
        · refine Any.owes_on rfl rfl (by kernel_rfl) rfl fun ρ wo hs' hb hc' => ?_
          have h47 : ρ (.tmp 47) = .slice (some ⟨b', off', none⟩) l.length c' := hs'.new' 47 30 (by kernel_rfl)
          have h48 : ρ (.tmp 48) = .int .i64 (n : Int) := hs'.new' 48 31 (by kernel_rfl)
          go_simp
          exact Any.post_val hb rfl rfl
        · refine Any.owes_on rfl rfl (by kernel_rfl) rfl fun ρ wo hs' hb hc' => ?_
          have h49 : ρ (.tmp 49) = .pointer (some ⟨b', off' + n * 3, none⟩) := hs'.new' 49 32 (by kernel_rfl)
          go_simp
          exact Any.post_val hb rfl rfl
        · refine Any.owes_on rfl rfl (by kernel_rfl) rfl fun ρ wo hs' hb hc' => ?_
          have h50 : ρ (.tmp 50) = .pointer (some ⟨b', off' + n * 3 + 2, none⟩) := hs'.new' 50 33 (by kernel_rfl)
          have c0 : wo.cell? ⟨b', off' + n * 3 + 2, none⟩ = some (.slice aR L.length cR) := (HCB.out wo (HBEL.out.trans ((below_undrew hb).mono HBEL.out.size))).2.2
          go_simp
          exact Any.post_val hb rfl rfl
        · refine Any.owes_on rfl rfl (by kernel_rfl) rfl fun ρ wo hs' hb hc' => ?_
          have h46 : ρ (.tmp 46) = .slice aL L.length cL := hs'.new' 46 29 (by kernel_rfl)
          have h51 : ρ (.tmp 51) = .slice aR L.length cR := hs'.new' 51 34 (by kernel_rfl)
          have hf := hs'.func 15
          go_simp
          exact (HSA.out wo (HBEL.out.trans ((below_undrew hb).mono HBEL.out.size))).mono fun e w' ⟨he, hb'⟩ => ⟨_, he, Any.post_vals hb rfl rfl hb'⟩
        · refine Any.owes_on rfl rfl (by kernel_rfl) rfl fun ρ wo hs' hb hc' => ?_
          have h52 : ρ (.tmp 52) = .bool true := hs'.new' 52 35 (by kernel_rfl)
          go_simp
          exact Any.post_val hb rfl rfl
        · refine Any.owes_plain rfl fun ρ wo hs' hb hc' => ?_
          have h41 : ρ (.tmp 41) = .bool false := hs'.new' 41 24 (by kernel_rfl)
          have h53 : ρ (.tmp 53) = .bool false := hs'.new' 53 36 (by kernel_rfl)
          go_simp
          exact Any.post_val hb rfl rfl
      intro vals w7 hb hk ha
      have h37 : vals 37 = .bool false := hk 37 (by kernel_rfl)
      have HB7 := Lib.hid (HBEL.out.trans (hb.mono HBEL.out.size))
      clear hk ha hb
      simp only [Any.putAll]
      go_frame
      simp only [Nat.zero_add, Nat.reduceAdd]
      rw [h37]
      clear h37
      go_wp2_with fail
      go_roundw
      case rel => exact ⟨n + 1, by omega, by go_num, HB7.out⟩
      case measure => (simp [intOf]) <;> omega
end Go.Proofs.YtgnfdplphpejaaaGreatDoor.Sc
